/- Changes, parts, items: as data, and as memory holds them. -/
import Derived.Test.YtkkagpchcefidaaEv21
set_option linter.unusedSimpArgs false
set_option linter.unusedVariables false
namespace Go.Proofs.Ytkkagpchcefidaa
open Go.Ev

structure Chg where
  kind : Int
  place : ByteArray
  data : ByteArray
  ver : Int
structure Tgd where
  chg : Chg
  tags : List Int
structure Seen where
  place : ByteArray
  data : ByteArray
  ver : Int
structure Prt where
  id : Int
  stamp : Int
  place : ByteArray
  kind : Int
  nodes : List Seen
structure Itm where
  stamp : Int
  after : Int
  marker : Bool
  chgs : List Tgd
  prts : List Prt

def Chg.cells (c : Chg) : List Value := [.int .i64 c.kind, .string c.place, .string c.data, .int .i64 c.ver]
def Seen.cells (s : Seen) : List Value := [.string s.place, .string s.data, .int .i64 s.ver]

def IntC (h : H) (cs : List Value) (n : Int) : Prop := cs = [.int .i64 n]
def SeenC (h : H) (cs : List Value) (s : Seen) : Prop := cs = s.cells
def TgdC (ok : Nat → Prop) (h : H) (cs : List Value) (t : Tgd) : Prop := ∃ v, cs = [.int .i64 t.chg.kind, .string t.chg.place, .string t.chg.data, .int .i64 t.chg.ver, v] ∧ SlR ok 1 IntC h v t.tags
def PrtC (ok : Nat → Prop) (h : H) (cs : List Value) (p : Prt) : Prop := ∃ v, cs = [.int .i64 p.id, .int .i64 p.stamp, .string p.place, .int .i64 p.kind, v] ∧ SlR ok 3 SeenC h v p.nodes
def ItmC (ok : Nat → Prop) (h : H) (cs : List Value) (x : Itm) : Prop := ∃ v w, cs = [.int .i64 x.stamp, .int .i64 x.after, .bool x.marker, v, w] ∧ SlR ok 5 (TgdC ok) h v x.chgs ∧ SlR ok 5 (PrtC ok) h w x.prts

section
variable {ok ok' : Nat → Prop} {h h' : H} {cs : List Value} {L : List Nat}

theorem IntC.kc {n : Int} (s : IntC h cs n) : IntC h' cs n := s
theorem SeenC.kc {n : Seen} (s : SeenC h cs n) : SeenC h' cs n := s

theorem SlInt.imp {v : Value} {xs : List Int} (s : SlR ok 1 IntC h v xs) (h1 : ∀ b, b < h.size → ok b → ok' b) (h3 : ∀ b cs, ok b → cel h b = some cs → cel h' b = some cs) : SlR ok' 1 IntC h' v xs :=
  s.imp h1 (fun _ _ _ q => q) h3
theorem SlSeen.imp {v : Value} {xs : List Seen} (s : SlR ok 3 SeenC h v xs) (h1 : ∀ b, b < h.size → ok b → ok' b) (h3 : ∀ b cs, ok b → cel h b = some cs → cel h' b = some cs) : SlR ok' 3 SeenC h' v xs :=
  s.imp h1 (fun _ _ _ q => q) h3
theorem TgdC.imp {t : Tgd} (s : TgdC ok h cs t) (h1 : ∀ b, b < h.size → ok b → ok' b) (h3 : ∀ b cs, ok b → cel h b = some cs → cel h' b = some cs) : TgdC ok' h' cs t := by
  obtain ⟨v, e, s⟩ := s
  exact ⟨v, e, SlInt.imp s h1 h3⟩
theorem PrtC.imp {t : Prt} (s : PrtC ok h cs t) (h1 : ∀ b, b < h.size → ok b → ok' b) (h3 : ∀ b cs, ok b → cel h b = some cs → cel h' b = some cs) : PrtC ok' h' cs t := by
  obtain ⟨v, e, s⟩ := s
  exact ⟨v, e, SlSeen.imp s h1 h3⟩
theorem SlTgd.imp {v : Value} {xs : List Tgd} (s : SlR ok 5 (TgdC ok) h v xs) (h1 : ∀ b, b < h.size → ok b → ok' b) (h3 : ∀ b cs, ok b → cel h b = some cs → cel h' b = some cs) : SlR ok' 5 (TgdC ok') h' v xs :=
  SlR.imp s h1 (fun _ _ _ q => TgdC.imp q h1 h3) h3
theorem SlPrt.imp {v : Value} {xs : List Prt} (s : SlR ok 5 (PrtC ok) h v xs) (h1 : ∀ b, b < h.size → ok b → ok' b) (h3 : ∀ b cs, ok b → cel h b = some cs → cel h' b = some cs) : SlR ok' 5 (PrtC ok') h' v xs :=
  SlR.imp s h1 (fun _ _ _ q => PrtC.imp q h1 h3) h3
theorem ItmC.imp {x : Itm} (s : ItmC ok h cs x) (h1 : ∀ b, b < h.size → ok b → ok' b) (h3 : ∀ b cs, ok b → cel h b = some cs → cel h' b = some cs) : ItmC ok' h' cs x := by
  obtain ⟨v, w, e, s1, s2⟩ := s
  exact ⟨v, w, e, SlTgd.imp s1 h1 h3, SlPrt.imp s2 h1 h3⟩
theorem SlItm.imp {v : Value} {xs : List Itm} (s : SlR ok 5 (ItmC ok) h v xs) (h1 : ∀ b, b < h.size → ok b → ok' b) (h3 : ∀ b cs, ok b → cel h b = some cs → cel h' b = some cs) : SlR ok' 5 (ItmC ok') h' v xs :=
  SlR.imp s h1 (fun _ _ _ q => ItmC.imp q h1 h3) h3

theorem keep_of (k : KeptC h h' L) (hL : ∀ b ∈ L, ¬ ok b) : ∀ b cs, ok b → cel h b = some cs → cel h' b = some cs :=
  fun b cs hk hb => (k.2 b (cel_lt hb) (fun q => hL b q hk)).trans hb
end

end Go.Proofs.Ytkkagpchcefidaa
