/-
  No cell of these rows narrows 'for every input' (looked for: loops, veiled, ifaces, maps, wideKeys, modest, calm, conditions, laid).
  DERIVED. THE GIVEN ROWS OF THIS SEAT. 11 by the template 'for every input the law returns true; each argument reads behind the call as it read before'; 0 by the template 'total and deterministic' (their statements: YtmenfnapbggglaaTotals.lean).
  GIVEN WITH THE SEED: the statements are not yours to turn. If you find one false, say at which input.
  Laid BY PROGRAM, IN A SANDBOX (cutbox-rows.mjs): the forced cells as the released guide's own fill.sh prints them over the translation 49566bdec61fc5a6… (all of the seat's roots in one cut). By AI agents, Wed Nov 11 2026. No macro, syntax, notation, axiom, sorry.
-/
import Derived.Test.YtmenfnapbggglaaChecked
import GoSem.Claim
import GoSem.ClaimJoined
import GoSem.ClaimMapViews
import Derived.JoinedTies
import Derived.KernelRfl
namespace Go.Proofs.Ytmenfnapbggglaa
/- THE CELL 'sum', in the pinned program and in every row, IS THE sha256 OF THE DUMP (.gsa) THAT YtmenfnapbggglaaProg.lean LOADS. Nothing in Lean hashes anything: it is a label: what it is worth is what the hold of that sum in a sandbox is worth. -/
noncomputable def Try.pinned : Pinned := { name := "ytmenfnapbggglaa", sum := "49566bdec61fc5a643b96bae6e2c29839033b91bcc4d41444d5232faea26e07a", checked := Try.checked }
namespace Rows
def none {H : Type} : Left H := { results := [], args := [] }

/-- 'heraldlaw16.LineTurned': WHATEVER THE INPUT: true; the input reads as it did. -/
def lineTurnedSpec : ChangeSpec := { name := "lineTurned", fn := fun _ => fun
  | [d1, d2, d3, d4] => { results := [.lit (.bool true)], args := [d1, d2, d3, d4] }
  | _ => none }
def lineTurnedRow : OpenClaim := { program := "ytmenfnapbggglaa", sum := "49566bdec61fc5a643b96bae6e2c29839033b91bcc4d41444d5232faea26e07a", func := "herald/heraldlaw16.LineTurned", spec := "lineTurned", apart := false }
def LineTurnedSaid : Prop := lineTurnedRow.holds Try.pinned (OpenSpec.ofChange lineTurnedSpec)

/-- ITS FALSE NEIGHBOUR: 'it returns false'. Refute it at one input. -/
def lineTurnedWrong : ChangeSpec := { name := "lineTurned", fn := fun _ => fun
  | [d1, d2, d3, d4] => { results := [.lit (.bool false)], args := [d1, d2, d3, d4] }
  | _ => none }
def LineTurnedWrongFalsely : Prop := lineTurnedRow.holds Try.pinned (OpenSpec.ofChange lineTurnedWrong)

/-- 'heraldlaw16.LineSends': WHATEVER THE INPUT: true; the input reads as it did. -/
def lineSendsSpec : ChangeSpec := { name := "lineSends", fn := fun _ => fun
  | [d] => { results := [.lit (.bool true)], args := [d] }
  | _ => none }
def lineSendsRow : OpenClaim := { program := "ytmenfnapbggglaa", sum := "49566bdec61fc5a643b96bae6e2c29839033b91bcc4d41444d5232faea26e07a", func := "herald/heraldlaw16.LineSends", spec := "lineSends", recurses := true, apart := false }
def LineSendsSaid : Prop := lineSendsRow.holds Try.pinned (OpenSpec.ofChange lineSendsSpec)

/-- ITS FALSE NEIGHBOUR: 'it returns false'. Refute it at one input. -/
def lineSendsWrong : ChangeSpec := { name := "lineSends", fn := fun _ => fun
  | [d] => { results := [.lit (.bool false)], args := [d] }
  | _ => none }
def LineSendsWrongFalsely : Prop := lineSendsRow.holds Try.pinned (OpenSpec.ofChange lineSendsWrong)

/-- 'heraldlaw16.LineTakes': WHATEVER THE INPUT: true; the input reads as it did. -/
def lineTakesSpec : ChangeSpec := { name := "lineTakes", fn := fun _ => fun
  | [d] => { results := [.lit (.bool true)], args := [d] }
  | _ => none }
def lineTakesRow : OpenClaim := { program := "ytmenfnapbggglaa", sum := "49566bdec61fc5a643b96bae6e2c29839033b91bcc4d41444d5232faea26e07a", func := "herald/heraldlaw16.LineTakes", spec := "lineTakes", recurses := true, apart := false }
def LineTakesSaid : Prop := lineTakesRow.holds Try.pinned (OpenSpec.ofChange lineTakesSpec)

/-- ITS FALSE NEIGHBOUR: 'it returns false'. Refute it at one input. -/
def lineTakesWrong : ChangeSpec := { name := "lineTakes", fn := fun _ => fun
  | [d] => { results := [.lit (.bool false)], args := [d] }
  | _ => none }
def LineTakesWrongFalsely : Prop := lineTakesRow.holds Try.pinned (OpenSpec.ofChange lineTakesWrong)

/-- 'heraldlaw16.LineDoubles': WHATEVER THE INPUT: true; the input reads as it did. -/
def lineDoublesSpec : ChangeSpec := { name := "lineDoubles", fn := fun _ => fun
  | [d] => { results := [.lit (.bool true)], args := [d] }
  | _ => none }
def lineDoublesRow : OpenClaim := { program := "ytmenfnapbggglaa", sum := "49566bdec61fc5a643b96bae6e2c29839033b91bcc4d41444d5232faea26e07a", func := "herald/heraldlaw16.LineDoubles", spec := "lineDoubles", recurses := true, apart := false }
def LineDoublesSaid : Prop := lineDoublesRow.holds Try.pinned (OpenSpec.ofChange lineDoublesSpec)

/-- ITS FALSE NEIGHBOUR: 'it returns false'. Refute it at one input. -/
def lineDoublesWrong : ChangeSpec := { name := "lineDoubles", fn := fun _ => fun
  | [d] => { results := [.lit (.bool false)], args := [d] }
  | _ => none }
def LineDoublesWrongFalsely : Prop := lineDoublesRow.holds Try.pinned (OpenSpec.ofChange lineDoublesWrong)

/-- 'heraldlaw16.LineSpoils': WHATEVER THE INPUT: true; the input reads as it did. -/
def lineSpoilsSpec : ChangeSpec := { name := "lineSpoils", fn := fun _ => fun
  | [d] => { results := [.lit (.bool true)], args := [d] }
  | _ => none }
def lineSpoilsRow : OpenClaim := { program := "ytmenfnapbggglaa", sum := "49566bdec61fc5a643b96bae6e2c29839033b91bcc4d41444d5232faea26e07a", func := "herald/heraldlaw16.LineSpoils", spec := "lineSpoils", recurses := true, apart := false }
def LineSpoilsSaid : Prop := lineSpoilsRow.holds Try.pinned (OpenSpec.ofChange lineSpoilsSpec)

/-- ITS FALSE NEIGHBOUR: 'it returns false'. Refute it at one input. -/
def lineSpoilsWrong : ChangeSpec := { name := "lineSpoils", fn := fun _ => fun
  | [d] => { results := [.lit (.bool false)], args := [d] }
  | _ => none }
def LineSpoilsWrongFalsely : Prop := lineSpoilsRow.holds Try.pinned (OpenSpec.ofChange lineSpoilsWrong)

/-- 'heraldlaw16.LineNumbers': WHATEVER THE INPUT: true; the input reads as it did. -/
def lineNumbersSpec : ChangeSpec := { name := "lineNumbers", fn := fun _ => fun
  | [d] => { results := [.lit (.bool true)], args := [d] }
  | _ => none }
def lineNumbersRow : OpenClaim := { program := "ytmenfnapbggglaa", sum := "49566bdec61fc5a643b96bae6e2c29839033b91bcc4d41444d5232faea26e07a", func := "herald/heraldlaw16.LineNumbers", spec := "lineNumbers", recurses := true, apart := false }
def LineNumbersSaid : Prop := lineNumbersRow.holds Try.pinned (OpenSpec.ofChange lineNumbersSpec)

/-- ITS FALSE NEIGHBOUR: 'it returns false'. Refute it at one input. -/
def lineNumbersWrong : ChangeSpec := { name := "lineNumbers", fn := fun _ => fun
  | [d] => { results := [.lit (.bool false)], args := [d] }
  | _ => none }
def LineNumbersWrongFalsely : Prop := lineNumbersRow.holds Try.pinned (OpenSpec.ofChange lineNumbersWrong)

/-- 'heraldlaw16.LineGoes': WHATEVER THE INPUT: true; the input reads as it did. -/
def lineGoesSpec : ChangeSpec := { name := "lineGoes", fn := fun _ => fun
  | [d] => { results := [.lit (.bool true)], args := [d] }
  | _ => none }
def lineGoesRow : OpenClaim := { program := "ytmenfnapbggglaa", sum := "49566bdec61fc5a643b96bae6e2c29839033b91bcc4d41444d5232faea26e07a", func := "herald/heraldlaw16.LineGoes", spec := "lineGoes", recurses := true, apart := false }
def LineGoesSaid : Prop := lineGoesRow.holds Try.pinned (OpenSpec.ofChange lineGoesSpec)

/-- ITS FALSE NEIGHBOUR: 'it returns false'. Refute it at one input. -/
def lineGoesWrong : ChangeSpec := { name := "lineGoes", fn := fun _ => fun
  | [d] => { results := [.lit (.bool false)], args := [d] }
  | _ => none }
def LineGoesWrongFalsely : Prop := lineGoesRow.holds Try.pinned (OpenSpec.ofChange lineGoesWrong)

/-- 'heraldlaw16.LineTwo': WHATEVER THE INPUT: true; the input reads as it did. -/
def lineTwoSpec : ChangeSpec := { name := "lineTwo", fn := fun _ => fun
  | [d] => { results := [.lit (.bool true)], args := [d] }
  | _ => none }
def lineTwoRow : OpenClaim := { program := "ytmenfnapbggglaa", sum := "49566bdec61fc5a643b96bae6e2c29839033b91bcc4d41444d5232faea26e07a", func := "herald/heraldlaw16.LineTwo", spec := "lineTwo", recurses := true, apart := false }
def LineTwoSaid : Prop := lineTwoRow.holds Try.pinned (OpenSpec.ofChange lineTwoSpec)

/-- ITS FALSE NEIGHBOUR: 'it returns false'. Refute it at one input. -/
def lineTwoWrong : ChangeSpec := { name := "lineTwo", fn := fun _ => fun
  | [d] => { results := [.lit (.bool false)], args := [d] }
  | _ => none }
def LineTwoWrongFalsely : Prop := lineTwoRow.holds Try.pinned (OpenSpec.ofChange lineTwoWrong)

/-- 'heraldlaw16.LineNothing': WHATEVER THE INPUT: true; the input reads as it did. -/
def lineNothingSpec : ChangeSpec := { name := "lineNothing", fn := fun _ => fun
  | [d] => { results := [.lit (.bool true)], args := [d] }
  | _ => none }
def lineNothingRow : OpenClaim := { program := "ytmenfnapbggglaa", sum := "49566bdec61fc5a643b96bae6e2c29839033b91bcc4d41444d5232faea26e07a", func := "herald/heraldlaw16.LineNothing", spec := "lineNothing", recurses := true, apart := false }
def LineNothingSaid : Prop := lineNothingRow.holds Try.pinned (OpenSpec.ofChange lineNothingSpec)

/-- ITS FALSE NEIGHBOUR: 'it returns false'. Refute it at one input. -/
def lineNothingWrong : ChangeSpec := { name := "lineNothing", fn := fun _ => fun
  | [d] => { results := [.lit (.bool false)], args := [d] }
  | _ => none }
def LineNothingWrongFalsely : Prop := lineNothingRow.holds Try.pinned (OpenSpec.ofChange lineNothingWrong)

/-- 'heraldlaw16.LineHonest': WHATEVER THE INPUT: true; the input reads as it did. -/
def lineHonestSpec : ChangeSpec := { name := "lineHonest", fn := fun _ => fun
  | [d] => { results := [.lit (.bool true)], args := [d] }
  | _ => none }
def lineHonestRow : OpenClaim := { program := "ytmenfnapbggglaa", sum := "49566bdec61fc5a643b96bae6e2c29839033b91bcc4d41444d5232faea26e07a", func := "herald/heraldlaw16.LineHonest", spec := "lineHonest", recurses := true, apart := false }
def LineHonestSaid : Prop := lineHonestRow.holds Try.pinned (OpenSpec.ofChange lineHonestSpec)

/-- ITS FALSE NEIGHBOUR: 'it returns false'. Refute it at one input. -/
def lineHonestWrong : ChangeSpec := { name := "lineHonest", fn := fun _ => fun
  | [d] => { results := [.lit (.bool false)], args := [d] }
  | _ => none }
def LineHonestWrongFalsely : Prop := lineHonestRow.holds Try.pinned (OpenSpec.ofChange lineHonestWrong)

/-- 'heraldlaw16.LineOwn': WHATEVER THE INPUT: true; the input reads as it did. -/
def lineOwnSpec : ChangeSpec := { name := "lineOwn", fn := fun _ => fun
  | [d] => { results := [.lit (.bool true)], args := [d] }
  | _ => none }
def lineOwnRow : OpenClaim := { program := "ytmenfnapbggglaa", sum := "49566bdec61fc5a643b96bae6e2c29839033b91bcc4d41444d5232faea26e07a", func := "herald/heraldlaw16.LineOwn", spec := "lineOwn", recurses := true, apart := false }
def LineOwnSaid : Prop := lineOwnRow.holds Try.pinned (OpenSpec.ofChange lineOwnSpec)

/-- ITS FALSE NEIGHBOUR: 'it returns false'. Refute it at one input. -/
def lineOwnWrong : ChangeSpec := { name := "lineOwn", fn := fun _ => fun
  | [d] => { results := [.lit (.bool false)], args := [d] }
  | _ => none }
def LineOwnWrongFalsely : Prop := lineOwnRow.holds Try.pinned (OpenSpec.ofChange lineOwnWrong)

/- THE SECOND FORM. 'bulk': how many values and letters a reading holds, each counted each time it is reached (what is shared counts as often as it is met; a slice's spare places count too). A statement '..UptoSaid' is the law's where the arguments, and the package variables that the reading takes, are together of bulk at most 1048576: NARROWER than '..Said'. Prove '..Said' where nothing that the law and all that it calls make is longer than what came in: it says more and counts as full. Else prove '..UptoSaid'. A law counts once. -/
mutual
def uptoBulk {H : Type} : DataW H → Nat
  | .lit (.string bytes) => bytes.length + 1
  | .lit _ => 1
  | .nil => 1
  | .ptr d => uptoBulk d + 1
  | .slice elems spare => uptoBulkAll elems + uptoBulkAll spare + 1
  | .agg parts => uptoBulkAll parts + 1
  | .iface _ d => uptoBulk d + 1
  | .map entries => uptoBulkEntries entries + 1
  | .held _ => 1
def uptoBulkAll {H : Type} : List (DataW H) → Nat
  | [] => 0
  | d :: r => uptoBulk d + uptoBulkAll r
def uptoBulkEntries {H : Type} : List (Lit × DataW H) → Nat
  | [] => 0
  | x :: r => uptoBulkEntry x + uptoBulkEntries r
def uptoBulkEntry {H : Type} : Lit × DataW H → Nat
  | (.string bytes, d) => bytes.length + uptoBulk d + 1
  | (_, d) => uptoBulk d + 1
 end
def uptoSmall : (H : Type) → List (DataW H) → Bool := fun _ ds => decide (uptoBulkAll ds ≤ 1048576)
def OpenSpec.upto (s : _root_.Go.ChangeSpec) : _root_.Go.OpenSpec := { _root_.Go.OpenSpec.ofChange s with cond := some uptoSmall }

/-- 'heraldlaw16.LineTurned', WHERE WHAT IT READS IS OF BULK AT MOST 1048576: true; the input reads as it did. -/
def lineTurnedUptoRow : OpenClaim := { program := "ytmenfnapbggglaa", sum := "49566bdec61fc5a643b96bae6e2c29839033b91bcc4d41444d5232faea26e07a", func := "herald/heraldlaw16.LineTurned", spec := "lineTurned", apart := false, narrowed := true }
def LineTurnedUptoSaid : Prop := lineTurnedUptoRow.holds Try.pinned (OpenSpec.upto lineTurnedSpec)

/-- 'heraldlaw16.LineSends', WHERE WHAT IT READS IS OF BULK AT MOST 1048576: true; the input reads as it did. -/
def lineSendsUptoRow : OpenClaim := { program := "ytmenfnapbggglaa", sum := "49566bdec61fc5a643b96bae6e2c29839033b91bcc4d41444d5232faea26e07a", func := "herald/heraldlaw16.LineSends", spec := "lineSends", recurses := true, apart := false, narrowed := true }
def LineSendsUptoSaid : Prop := lineSendsUptoRow.holds Try.pinned (OpenSpec.upto lineSendsSpec)

/-- 'heraldlaw16.LineTakes', WHERE WHAT IT READS IS OF BULK AT MOST 1048576: true; the input reads as it did. -/
def lineTakesUptoRow : OpenClaim := { program := "ytmenfnapbggglaa", sum := "49566bdec61fc5a643b96bae6e2c29839033b91bcc4d41444d5232faea26e07a", func := "herald/heraldlaw16.LineTakes", spec := "lineTakes", recurses := true, apart := false, narrowed := true }
def LineTakesUptoSaid : Prop := lineTakesUptoRow.holds Try.pinned (OpenSpec.upto lineTakesSpec)

/-- 'heraldlaw16.LineDoubles', WHERE WHAT IT READS IS OF BULK AT MOST 1048576: true; the input reads as it did. -/
def lineDoublesUptoRow : OpenClaim := { program := "ytmenfnapbggglaa", sum := "49566bdec61fc5a643b96bae6e2c29839033b91bcc4d41444d5232faea26e07a", func := "herald/heraldlaw16.LineDoubles", spec := "lineDoubles", recurses := true, apart := false, narrowed := true }
def LineDoublesUptoSaid : Prop := lineDoublesUptoRow.holds Try.pinned (OpenSpec.upto lineDoublesSpec)

/-- 'heraldlaw16.LineSpoils', WHERE WHAT IT READS IS OF BULK AT MOST 1048576: true; the input reads as it did. -/
def lineSpoilsUptoRow : OpenClaim := { program := "ytmenfnapbggglaa", sum := "49566bdec61fc5a643b96bae6e2c29839033b91bcc4d41444d5232faea26e07a", func := "herald/heraldlaw16.LineSpoils", spec := "lineSpoils", recurses := true, apart := false, narrowed := true }
def LineSpoilsUptoSaid : Prop := lineSpoilsUptoRow.holds Try.pinned (OpenSpec.upto lineSpoilsSpec)

/-- 'heraldlaw16.LineNumbers', WHERE WHAT IT READS IS OF BULK AT MOST 1048576: true; the input reads as it did. -/
def lineNumbersUptoRow : OpenClaim := { program := "ytmenfnapbggglaa", sum := "49566bdec61fc5a643b96bae6e2c29839033b91bcc4d41444d5232faea26e07a", func := "herald/heraldlaw16.LineNumbers", spec := "lineNumbers", recurses := true, apart := false, narrowed := true }
def LineNumbersUptoSaid : Prop := lineNumbersUptoRow.holds Try.pinned (OpenSpec.upto lineNumbersSpec)

/-- 'heraldlaw16.LineGoes', WHERE WHAT IT READS IS OF BULK AT MOST 1048576: true; the input reads as it did. -/
def lineGoesUptoRow : OpenClaim := { program := "ytmenfnapbggglaa", sum := "49566bdec61fc5a643b96bae6e2c29839033b91bcc4d41444d5232faea26e07a", func := "herald/heraldlaw16.LineGoes", spec := "lineGoes", recurses := true, apart := false, narrowed := true }
def LineGoesUptoSaid : Prop := lineGoesUptoRow.holds Try.pinned (OpenSpec.upto lineGoesSpec)

/-- 'heraldlaw16.LineTwo', WHERE WHAT IT READS IS OF BULK AT MOST 1048576: true; the input reads as it did. -/
def lineTwoUptoRow : OpenClaim := { program := "ytmenfnapbggglaa", sum := "49566bdec61fc5a643b96bae6e2c29839033b91bcc4d41444d5232faea26e07a", func := "herald/heraldlaw16.LineTwo", spec := "lineTwo", recurses := true, apart := false, narrowed := true }
def LineTwoUptoSaid : Prop := lineTwoUptoRow.holds Try.pinned (OpenSpec.upto lineTwoSpec)

/-- 'heraldlaw16.LineNothing', WHERE WHAT IT READS IS OF BULK AT MOST 1048576: true; the input reads as it did. -/
def lineNothingUptoRow : OpenClaim := { program := "ytmenfnapbggglaa", sum := "49566bdec61fc5a643b96bae6e2c29839033b91bcc4d41444d5232faea26e07a", func := "herald/heraldlaw16.LineNothing", spec := "lineNothing", recurses := true, apart := false, narrowed := true }
def LineNothingUptoSaid : Prop := lineNothingUptoRow.holds Try.pinned (OpenSpec.upto lineNothingSpec)

/-- 'heraldlaw16.LineHonest', WHERE WHAT IT READS IS OF BULK AT MOST 1048576: true; the input reads as it did. -/
def lineHonestUptoRow : OpenClaim := { program := "ytmenfnapbggglaa", sum := "49566bdec61fc5a643b96bae6e2c29839033b91bcc4d41444d5232faea26e07a", func := "herald/heraldlaw16.LineHonest", spec := "lineHonest", recurses := true, apart := false, narrowed := true }
def LineHonestUptoSaid : Prop := lineHonestUptoRow.holds Try.pinned (OpenSpec.upto lineHonestSpec)

/-- 'heraldlaw16.LineOwn', WHERE WHAT IT READS IS OF BULK AT MOST 1048576: true; the input reads as it did. -/
def lineOwnUptoRow : OpenClaim := { program := "ytmenfnapbggglaa", sum := "49566bdec61fc5a643b96bae6e2c29839033b91bcc4d41444d5232faea26e07a", func := "herald/heraldlaw16.LineOwn", spec := "lineOwn", recurses := true, apart := false, narrowed := true }
def LineOwnUptoSaid : Prop := lineOwnUptoRow.holds Try.pinned (OpenSpec.upto lineOwnSpec)

end Rows
end Go.Proofs.Ytmenfnapbggglaa
