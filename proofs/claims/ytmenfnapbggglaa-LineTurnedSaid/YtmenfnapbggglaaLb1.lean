/- The program's line, as the evaluator's memory holds it; Look, put, Take, Double, Spoil. -/
import Derived.Test.YtmenfnapbggglaaLb0
set_option linter.unusedSimpArgs false
set_option linter.unusedVariables false
namespace Go.Proofs.Ytmenfnapbggglaa
open Go.Ev

structure Msg where
  fr : Int
  to : Int
  b : ByteArray

def Msg.cells (m : Msg) : List Value := [.int .i64 m.fr, .int .i64 m.to, .string m.b]
def Msg.val (m : Msg) : Value := .agg ⟨m.cells⟩
def Msg.zero : Msg := ⟨0, 0, ⟨#[]⟩⟩
abbrev Parcel := Msg × Bool
def pcells (p : Parcel) : List Value := p.1.cells ++ [.bool p.2]
def pval (p : Parcel) : Value := .agg ⟨pcells p⟩
abbrev Flight := List (Int × Parcel)
def ents (fl : Flight) : List (Value × Value) := fl.map fun p => (.int .i64 p.1, pval p.2)

def lk (n : Int) : Flight → Nat → Option (Nat × Parcel)
  | [], _ => none
  | p :: r, i => if n = p.1 then some (i, p.2) else lk n r (i + 1)

theorem findM_ents (n : Int) : ∀ (fl : Flight) (i : Nat), findM (.int .i64 n) (ents fl) i = some ((lk n fl i).map fun q => (q.1, pval q.2))
  | [], i => rfl
  | p :: r, i => by
    have ih := findM_ents n r (i + 1)
    unfold ents at ih
    unfold ents lk
    simp only [List.map_cons, findM, keyEq, if_true]
    by_cases h : n = p.1
    · simp [h]
    · have : (n == p.1) = false := by simpa using h
      simp [this, h, ih]

structure LineAt (h : H) (b : Nat) (m : Option Nat) (fl : Flight) (last : Int) : Prop where
  line : hget h b = some (.cells [.map m, .int .i64 last] 0 true [])
  no : m = none → fl = []
  yes : ∀ x, m = some x → x ≠ b ∧ hget h x = some (.map (ents fl) true)

theorem LineAt.entries {h : H} {b : Nat} {m : Option Nat} {fl : Flight} {last : Int} (l : LineAt h b m fl last) : entriesOf h (.map m) = some (ents fl) := by
  cases m with
  | none => rw [l.no rfl]; rfl
  | some x => simp [entriesOf, (l.yes x rfl).2]

theorem look_spec (F : Nat) {h : H} {b : Nat} {m : Option Nat} {fl : Flight} {last : Int} (l : LineAt h b m fl last) (n : Int) :
    Ans (cf (F + 1) 19 [.pointer (some ⟨b, 0, none⟩), .int .i64 n] h) fun v h' =>
      v = .tuple ⟨match lk n fl 0 with | some (_, p) => [p.1.val, .int .i64 0] | none => [Msg.zero.val, .int .i64 160]⟩ ∧ Keeps h h' fun _ => False := by
  have hb := l.line
  have hbs := lt_of_get hb
  have he := l.entries
  rw [cf_step (a := a19) rfl (by simp [a19])]
  simp [a19, r19_0, r19_1, nilEq, r19_3, rd, hbs, hb]
  cases m with
  | none =>
    have := l.no rfl
    subst this
    simp [entriesOf, findM, wr, hbs, lk, r19_4, aUn, r19_5, partsOf, fillL, rd]
    refine .of ⟨rfl, ?_⟩
    repeat first | exact Keeps.refl _ _ | apply Keeps.row | refine Keeps.set_new ?_ (by omega) _
  | some x =>
    obtain ⟨hx1, hx2⟩ := l.yes x rfl
    have hxs := lt_of_get hx2
    simp [entriesOf, hxs, hx2, findM_ents]
    cases lk n fl 0 with
    | none =>
      simp [wr, r19_4, aUn, r19_5, partsOf, fillL, rd]
      refine .of ⟨rfl, ?_⟩
      repeat first | exact Keeps.refl _ _ | apply Keeps.row | refine Keeps.set_new ?_ (by omega) _
    | some q =>
      obtain ⟨i, p⟩ := q
      simp [wr, r19_4, aUn, r19_6, rd, pval, pcells, Msg.cells]
      refine .of ⟨rfl, ?_⟩
      repeat first | exact Keeps.refl _ _ | apply Keeps.row | refine Keeps.set_new ?_ (by omega) _

theorem LineAt.length_le {h : H} {b : Nat} {m : Option Nat} {fl : Flight} {last : Int} (l : LineAt h b m fl last) : (ents fl).length = fl.length := by simp [ents]

/-- Numbers rise, up to the last one. -/
structure Fl (fl : Flight) (last : Int) : Prop where
  rise : fl.Pairwise fun p q => p.1 < q.1
  bnd : ∀ p ∈ fl, 1 ≤ p.1 ∧ p.1 ≤ last
  pos : 0 ≤ last

theorem lk_none {n : Int} : ∀ {fl : Flight} (i : Nat), (∀ p ∈ fl, p.1 ≠ n) → lk n fl i = none
  | [], _, _ => rfl
  | p :: r, i, h => by
    unfold lk
    rw [if_neg (fun e => h p (by simp) e.symm)]
    exact lk_none (i + 1) fun q hq => h q (by simp [hq])

theorem Fl.fresh {fl : Flight} {last : Int} (w : Fl fl last) : lk (last + 1) fl 0 = none :=
  lk_none 0 fun p hp => by have := (w.bnd p hp).2; omega

theorem Fl.put {fl : Flight} {last : Int} (w : Fl fl last) (p : Parcel) : Fl (fl ++ [(last + 1, p)]) (last + 1) := by
  refine ⟨List.pairwise_append.2 ⟨w.rise, by simp, fun a ha q hq => ?_⟩, fun q hq => ?_, by have := w.pos; omega⟩
  · simp at hq; subst hq
    have := (w.bnd a ha).2
    show a.1 < last + 1
    omega
  · rcases List.mem_append.1 hq with h | h
    · have := w.bnd q h; omega
    · simp at h; subst h
      have := w.pos
      exact ⟨by show 1 ≤ last + 1; omega, Int.le_refl _⟩

theorem put_spec (F : Nat) {h : H} {b : Nat} {m : Option Nat} {fl : Flight} {last : Int} (l : LineAt h b m fl last) (w : Fl fl last) (hmax : last ≤ 1000000000) (p : Parcel) :
    Ans (cf (F + 1) 34 [.pointer (some ⟨b, 0, none⟩), pval p] h) fun v h' =>
      if 256 ≤ fl.length then v = .int .i64 (-1) ∧ Keeps h h' fun _ => False
      else v = .int .i64 (last + 1) ∧ (Keeps h h' fun x => x = b ∨ m = some x) ∧ ∃ m', LineAt h' b (some m') (fl ++ [(last + 1, p)]) (last + 1) ∧ (m = some m' ∨ (m = none ∧ h.size ≤ m')) := by
  have hb := l.line
  have hbs := lt_of_get hb
  have hpos := w.pos
  have hwrap : IntKind.i64.wrap (last + 1) = last + 1 := wrap_in (by omega) (by omega)
  rw [cf_step (a := a34) rfl (by simp [a34])]
  simp [a34, r34_0, r34_1, nilEq, pval, pcells, Msg.cells, rd, hbs, hb, aBin, intBin]
  cases m with
  | none =>
    have := l.no rfl
    subst this
    simp [entriesOf, r34_3, r34_4, r34_5, rd, wr, hbs, hb, nilEq, aBin, intBin, hwrap, d34_6, r34_7, ne_at hbs, ne_at' hbs, ne_far hbs, ne_far' hbs, findM]
    refine .of ⟨rfl, ?_, h.size + 1, ⟨?_, nofun, ?_⟩, by omega⟩
    · repeat first | exact Keeps.refl _ _ | apply Keeps.row | refine Keeps.set_new ?_ (by omega) _ | refine Keeps.set_may ?_ (by simp) _ | apply Keeps.push
    · simp [ne_at hbs, ne_at' hbs, ne_far hbs, ne_far' hbs, hbs]
    · intro x hx
      cases hx
      simp [ne_at hbs, ne_at' hbs, ne_far hbs, ne_far' hbs, hbs, ents, pval, pcells, Msg.cells]
  | some x =>
    obtain ⟨hx1, hx2⟩ := l.yes x rfl
    have hxs := lt_of_get hx2
    simp [entriesOf, hxs, hx2, ents]
    by_cases hfull : 256 ≤ fl.length
    · have hf' : (256 : Int) ≤ (fl.length : Int) := by omega
      simp [hfull, hf', r34_2]
      refine Ans.of ?_
      refine ⟨rfl, ?_⟩
      repeat first | exact Keeps.refl _ _ | apply Keeps.row | refine Keeps.set_new ?_ (by omega) _
    · have hf' : ¬ (256 : Int) ≤ (fl.length : Int) := by omega
      have hf := findM_ents (last + 1) fl 0
      rw [w.fresh] at hf
      simp [hfull, hf', r34_3, r34_5, d34_6, r34_7, rd, wr, hbs, hb, nilEq, aBin, intBin, hwrap, ne_at hbs, ne_at' hbs, ne_far hbs, ne_far' hbs, ne_at hxs, ne_at' hxs, ne_far hxs, ne_far' hxs, hx1, hx1.symm, hx2, hxs, hf]
      refine Ans.of ?_
      refine ⟨rfl, ?_, ⟨?_, nofun, ?_⟩⟩
      · repeat first | exact Keeps.refl _ _ | apply Keeps.row | refine Keeps.set_new ?_ (by omega) _ | refine Keeps.set_may ?_ (by simp) _ | apply Keeps.push
      · simp [ne_at hbs, ne_at' hbs, ne_far hbs, ne_far' hbs, hbs, hxs, hx1, hx1.symm]
      · intro y hy
        cases hy
        simp [ne_at hbs, ne_at' hbs, ne_far hbs, ne_far' hbs, hbs, ents, pval, pcells, Msg.cells, hxs, hx1, hx1.symm]

end Go.Proofs.Ytmenfnapbggglaa
