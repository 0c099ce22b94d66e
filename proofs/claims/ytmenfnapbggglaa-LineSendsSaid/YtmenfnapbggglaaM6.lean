/- Several texts in one: Lb2, Lb4, Lb5, Lb6, Lb3, Lb7, Ev19, Ev20, Ev21, Ev22, Lc0, Lc1. -/
import Derived.ChangeArms
import Derived.Test.YtmenfnapbggglaaM5

/- Take, Double, Spoil of the program's line. -/
set_option linter.unusedSimpArgs false
set_option linter.unusedVariables false
namespace Go.Proofs.Ytmenfnapbggglaa
open Go.Ev

theorem LineAt.keeps {h h' : H} {S : Nat → Prop} {b : Nat} {m : Option Nat} {fl : Flight} {last : Int} (l : LineAt h b m fl last) (k : Keeps h h' S) (h1 : ¬ S b) (h2 : ∀ x, m = some x → ¬ S x) : LineAt h' b m fl last :=
  ⟨k.get l.line h1, l.no, fun x hx => ⟨(l.yes x hx).1, k.get (l.yes x hx).2 (h2 x hx)⟩⟩

theorem LineAt.keeps0 {h h' : H} {b : Nat} {m : Option Nat} {fl : Flight} {last : Int} (l : LineAt h b m fl last) (k : Keeps h h' fun _ => False) : LineAt h' b m fl last := l.keeps k (by simp) (by simp)

theorem LineAt.some_of {h : H} {b : Nat} {m : Option Nat} {fl : Flight} {last : Int} (l : LineAt h b m fl last) {n : Int} {i j : Nat} {p : Parcel} (e : lk n fl j = some (i, p)) : ∃ x, m = some x := by
  cases m with
  | some x => exact ⟨x, rfl⟩
  | none => rw [l.no rfl] at e; cases e

theorem double_spec (F : Nat) {h : H} {b : Nat} {m : Option Nat} {fl : Flight} {last : Int} (l : LineAt h b m fl last) (w : Fl fl last) (hmax : last ≤ 1000000000) (n : Int) :
    Ans (cf (F + 2) 17 [.pointer (some ⟨b, 0, none⟩), .int .i64 n] h) fun v h' =>
      match lk n fl 0 with
      | none => v = .tuple ⟨[.int .i64 0, .int .i64 160]⟩ ∧ Keeps h h' fun _ => False
      | some (_, p) => if 256 ≤ fl.length then v = .tuple ⟨[.int .i64 0, .int .i64 46]⟩ ∧ Keeps h h' fun _ => False
        else v = .tuple ⟨[.int .i64 (last + 1), .int .i64 0]⟩ ∧ (Keeps h h' fun x => x = b ∨ m = some x) ∧ ∃ m', LineAt h' b (some m') (fl ++ [(last + 1, p)]) (last + 1) ∧ (m = some m' ∨ (m = none ∧ h.size ≤ m')) := by
  rw [cf_step (a := a17) rfl rfl (by simp [a17])]
  simp [a17, r17_0, r17_1]
  refine Ans.next (look_spec F l n) ?_
  rintro v h1 ⟨rfl, k1⟩
  cases hlk : lk n fl 0 with
  | none =>
    simp [Msg.zero, Msg.val, Msg.cells, r17_2, r17_3]
    refine Ans.of ?_
    refine ⟨rfl, k1.trans ?_⟩
    repeat first | exact Keeps.refl _ _ | apply Keeps.row | refine Keeps.set_new ?_ (by omega) _
  | some q =>
    obtain ⟨i, p⟩ := q
    obtain ⟨x, rfl⟩ := l.some_of hlk
    have l1 := l.keeps0 k1
    have hb := l1.line
    have hbs := lt_of_get hb
    obtain ⟨hx1, hx2⟩ := l1.yes x rfl
    have hxs := lt_of_get hx2
    have hf := findM_ents n fl 0
    rw [hlk] at hf
    simp [Msg.val, Msg.cells, r17_2, r17_4, hbs, hb, hxs, hx2, hf, ne_at hbs, ne_at' hbs, ne_at hxs, ne_at' hxs]
    refine Ans.next (put_spec F (l1.keeps0 ?_) w hmax p) ?_
    · repeat first | exact Keeps.refl _ _ | apply Keeps.row | refine Keeps.set_new ?_ (by omega) _
    intro v h2 hq
    by_cases hfull : 256 ≤ fl.length
    · rw [if_pos hfull] at hq
      obtain ⟨rfl, k2⟩ := hq
      simp [hfull, r17_5, r17_6]
      refine Ans.of ?_
      refine ⟨rfl, k1.trans (Keeps.trans ?_ k2)⟩
      repeat first | exact Keeps.refl _ _ | apply Keeps.row | refine Keeps.set_new ?_ (by omega) _
    · rw [if_neg hfull] at hq
      obtain ⟨rfl, k2, m', l2, hm'⟩ := hq
      have hpos := w.pos
      have hneg : ¬ (last + 1 < 0) := by omega
      simp [hfull, hneg, r17_5, r17_7]
      refine Ans.of ?_
      rcases hm' with hm' | ⟨hm', _⟩
      · cases hm'
        refine ⟨rfl, (k1.weak (by simp)).trans (Keeps.trans ?_ (k2.weak (by simp))), l2⟩
        repeat first | exact Keeps.refl _ _ | apply Keeps.row | refine Keeps.set_new ?_ (by omega) _
      · cases hm'

theorem map_eraseIdx {α β : Type} (f : α → β) : ∀ (l : List α) (i : Nat), (l.map f).eraseIdx i = (l.eraseIdx i).map f
  | [], _ => rfl
  | _ :: _, 0 => rfl
  | a :: l, i + 1 => by simp [map_eraseIdx f l i]

theorem take_spec (F : Nat) {h : H} {b : Nat} {m : Option Nat} {fl : Flight} {last : Int} (l : LineAt h b m fl last) (n : Int) :
    Ans (cf (F + 2) 35 [.pointer (some ⟨b, 0, none⟩), .int .i64 n] h) fun v h' =>
      match lk n fl 0 with
      | none => v = .tuple ⟨[Msg.zero.val, .int .i64 160]⟩ ∧ Keeps h h' fun _ => False
      | some (i, p) => v = .tuple ⟨[p.1.val, .int .i64 0]⟩ ∧ (Keeps h h' fun x => m = some x) ∧ LineAt h' b m (fl.eraseIdx i) last := by
  have hbs := lt_of_get l.line
  rw [cf_step (a := a35) rfl rfl (by simp [a35])]
  simp [a35, r35_0, r35_1]
  have l0 : LineAt (Ev.newRow h [.int .i64 0, .int .i64 0, .string { data := #[] }] 0 []) b m fl last := l.keeps0 ((Keeps.refl _ _).row _ _ _)
  refine Ans.next (look_spec F l0 n) ?_
  rintro v h1 ⟨rfl, k1⟩
  have h0 : hget h1 h.size = _ := k1.get (newRow_new rfl) (by simp)
  have h0s := lt_of_get h0
  have l1 := l0.keeps0 k1
  have hb := l1.line
  have hbs1 := lt_of_get hb
  have k1' := k1.1
  simp at k1'
  have kh1 : Keeps h h1 fun _ => False := Keeps.trans ((Keeps.refl _ _).row _ _ _) k1
  cases hlk : lk n fl 0 with
  | none =>
    simp [Msg.zero, Msg.val, Msg.cells, r35_2, r35_4, ne_at h0s, ne_at' h0s, h0, h0s]
    refine Ans.of ?_
    refine ⟨rfl, ?_⟩
    repeat first | exact kh1 | apply Keeps.row | refine Keeps.set_new ?_ (by omega) _
  | some q =>
    obtain ⟨i, p⟩ := q
    obtain ⟨x, rfl⟩ := l.some_of hlk
    have hx0 := lt_of_get (l.yes x rfl).2
    obtain ⟨hx1, hx2⟩ := l1.yes x rfl
    have hxs := lt_of_get hx2
    have hf := findM_ents n fl 0
    rw [hlk] at hf
    simp [Msg.val, Msg.cells, r35_2, r35_3, r35_4, ne_at h0s, ne_at' h0s, h0, h0s, hb, hbs, hbs1, hxs, hx2, hf, ne_at hbs1, ne_at' hbs1, ne_at hxs, ne_at' hxs, ne_at hx0, ne_at' hx0]
    refine Ans.of ?_
    refine ⟨rfl, ?_, ⟨?_, nofun, ?_⟩⟩
    · repeat first | exact kh1.weak (by simp) | apply Keeps.row | refine Keeps.set_new ?_ (by omega) _ | refine Keeps.set_may ?_ (by simp) _
    · simp [hbs, hbs1, hb, hx1, hx1.symm, ne_at hbs, ne_at' hbs, ne_at hbs1, ne_at' hbs1]
    · intro y hy
      cases hy
      refine ⟨hx1, ?_⟩
      simp [hxs, hx0, ne_at hx0, ne_at' hx0, ne_at hxs, ne_at' hxs, ents, map_eraseIdx, lt_far hxs]

end Go.Proofs.Ytmenfnapbggglaa

/- Lists of messages in memory; short. -/
set_option linter.unusedSimpArgs false
set_option linter.unusedVariables false
namespace Go.Proofs.Ytmenfnapbggglaa
open Go.Ev

def mcells (l : List Msg) : List Value := l.flatMap Msg.cells

theorem mcells_length : ∀ l : List Msg, (mcells l).length = 3 * l.length
  | [] => rfl
  | m :: l => by
    have := mcells_length l
    unfold mcells at this ⊢
    rw [List.flatMap_cons, List.length_append, this, List.length_cons]
    simp only [Msg.cells, List.length_cons, List.length_nil]
    omega

/-- What a list of messages reads: element by element. -/
def MsgsAt (h : H) (v : Value) (l : List Msg) : Prop :=
  (l = [] ∧ v = .slice none 0 0) ∨
  (∃ b o c cs es lv an, v = .slice (some ⟨b, o, none⟩) l.length c ∧ hget h b = some (.cells cs es lv an) ∧ o + 3 * l.length ≤ cs.length ∧ (cs.drop o).take (3 * l.length) = mcells l)

theorem MsgsAt.keeps {h h' : H} {v : Value} {l : List Msg} (m : MsgsAt h v l) (k : Keeps h h' fun _ => False) : MsgsAt h' v l := by
  rcases m with m | ⟨b, o, c, cs, es, lv, an, h1, h2, h3, h4⟩
  · exact .inl m
  · exact .inr ⟨b, o, c, cs, es, lv, an, h1, k.get h2 (by simp), h3, h4⟩

theorem slice3 {cs : List Value} {o : Nat} {l : List Msg} (h3 : o + 3 * l.length ≤ cs.length) (h4 : (cs.drop o).take (3 * l.length) = mcells l) {i : Nat} (hi : i < l.length) : o + i * 3 + 3 ≤ cs.length ∧ (cs.drop (o + i * 3)).take 3 = (l[i]).cells := by
  refine ⟨by omega, ?_⟩
  have h5 : ((mcells l).drop (i * 3)).take 3 = (l[i]).cells := by
    clear h3 h4
    induction l generalizing i with
    | nil => simp at hi
    | cons m l ih =>
      cases i with
      | zero => rfl
      | succ i =>
        have hi' : i < l.length := by simpa using hi
        have := ih hi'
        rw [show (i + 1) * 3 = i * 3 + 3 by omega]
        simpa [mcells, Msg.cells, List.drop_append] using this
  rw [← h5, ← h4, List.drop_take, List.take_take, List.drop_drop, Nat.min_eq_left (by omega)]

theorem MsgsAt.read {h : H} {v : Value} {l : List Msg} (m : MsgsAt h v l) {i : Nat} (hi : i < l.length) :
    ∃ b o c cs es lv an, v = .slice (some ⟨b, o, none⟩) l.length c ∧ hget h b = some (.cells cs es lv an) ∧ o + i * 3 + 3 ≤ cs.length ∧ (cs.drop (o + i * 3)).take 3 = [.int .i64 (l[i]).fr, .int .i64 (l[i]).to, .string (l[i]).b] := by
  rcases m with ⟨rfl, _⟩ | ⟨b, o, c, cs, es, lv, an, h1, h2, h3, h4⟩
  · simp at hi
  · obtain ⟨h5, h6⟩ := slice3 h3 h4 hi
    exact ⟨b, o, c, cs, es, lv, an, h1, h2, h5, h6⟩

/-- A row of one's own (n elements of es cells), all of it behind B: it may grow. -/
def OwnRow (h : H) (v : Value) (es n : Nat) (cs : List Value) (B : Nat) : Prop :=
  (n = 0 ∧ cs = [] ∧ v = .slice none 0 0) ∨ (∃ b, B ≤ b ∧ v = .slice (some ⟨b, 0, none⟩) n n ∧ (∃ an, hget h b = some (.cells cs es true an) ∧ ∀ a ∈ an, B ≤ a) ∧ cs.length = n * es)

theorem OwnRow.keeps {h h' : H} {v : Value} {es n : Nat} {cs : List Value} {B : Nat} (o : OwnRow h v es n cs B) {S : Nat → Prop} (k : Keeps h h' S) (hs : ∀ b, B ≤ b → ¬ S b) : OwnRow h' v es n cs B := by
  rcases o with o | ⟨b, h1, h2, ⟨an, h3, h4⟩, h5⟩
  · exact .inl o
  · exact .inr ⟨b, h1, h2, ⟨an, k.get h3 (hs b h1), h4⟩, h5⟩

theorem OwnRow.keeps' {h h' : H} {v : Value} {es n : Nat} {cs : List Value} {B : Nat} (o : OwnRow h v es n cs B) {S : Nat → Prop} (k : Keeps h h' S) (hs : ∀ b an, B ≤ b → hget h b = some (.cells cs es true an) → ¬ S b) : OwnRow h' v es n cs B := by
  rcases o with o | ⟨b, h1, h2, ⟨an, h3, h4⟩, h5⟩
  · exact .inl o
  · exact .inr ⟨b, h1, h2, ⟨an, k.get h3 (hs b an h1 h3), h4⟩, h5⟩

theorem OwnRow.at {h : H} {v : Value} {es n : Nat} {cs : List Value} {B : Nat} (o : OwnRow h v es n cs B) {x n' : Nat} (e : v = .slice (some ⟨x, 0, none⟩) n' n') : ∃ an, hget h x = some (.cells cs es true an) := by
  rcases o with ⟨_, _, h3⟩ | ⟨b, h1, h2, ⟨an, h3, h4⟩, h5⟩
  · rw [h3] at e; cases e
  · rw [h2] at e; cases e; exact ⟨an, h3⟩

theorem OwnRow.msgs {h : H} {v : Value} {l : List Msg} {B : Nat} (o : OwnRow h v 3 l.length (mcells l) B) : MsgsAt h v l := by
  rcases o with ⟨h1, h2, h3⟩ | ⟨b, h1, h2, ⟨an, h3, h4⟩, h5⟩
  · exact .inl ⟨List.length_eq_zero_iff.1 h1, h3⟩
  · exact .inr ⟨b, 0, l.length, mcells l, 3, true, an, h2, h3, by rw [h5]; omega, by rw [List.drop_zero, List.take_of_length_le (by rw [h5]; omega)]⟩

/-- One more at the end of a row of one's own: a new block. -/
theorem append1 {h : H} {v : Value} {es n bytes : Nat} {cs : List Value} {B : Nat} (hB : B ≤ h.size) (o : OwnRow h v es n cs B) (m : List Value) (hm : m.length = es) (hl : (n + 1) * bytes ≤ 2 ^ 47) :
    ∃ h', appendTo h es bytes v 1 m = some (.slice (some ⟨h.size, 0, none⟩) (n + 1) (n + 1), h') ∧ h'.size = h.size + 1 ∧ OwnRow h' (.slice (some ⟨h.size, 0, none⟩) (n + 1) (n + 1)) es (n + 1) (cs ++ m) B ∧ Keeps h h' fun x => B ≤ x ∧ ∃ n, v = .slice (some ⟨x, 0, none⟩) n n := by
  rcases o with ⟨rfl, rfl, rfl⟩ | ⟨b, hb, rfl, ⟨an, hbl, han⟩, hlen⟩
  · have hl' : 1 * bytes ≤ 2 ^ 47 := by simpa using hl
    refine ⟨Ev.newRow h m es [], by simp only [appendTo, if_neg (Nat.succ_ne_zero 0), if_pos hl'], by simp, .inr ⟨h.size, hB, by simp, ⟨[], ?_, by simp⟩, by simp [hm]⟩, (Keeps.refl _ _).row _ _ _⟩
    rw [newRow_new rfl]; simp
  · have hbs := lt_of_get hbl
    have h1 : ¬ (n + 1 ≤ n) := by omega
    have hbl' : h[b]? = some (.cells cs es true an) := hbl
    refine ⟨Ev.newRow (h.setIfInBounds b (.cells cs es false an)) (cs ++ m) es (b :: an), ?_, by simp, .inr ⟨h.size, hB, by simp, ⟨b :: an, ?_, ?_⟩, ?_⟩, ?_⟩
    · simp only [appendTo, if_neg (Nat.succ_ne_zero 0), if_neg h1, if_pos hl, hbl', hlen, Nat.zero_add, Nat.le_refl, and_self, if_true, List.drop_zero]
      rw [List.take_of_length_le (by omega)]
    · rw [newRow_new (by simp)]
    · intro a ha
      rcases List.mem_cons.1 ha with rfl | ha
      · exact hb
      · exact han a ha
    · rw [List.length_append, hlen, hm, Nat.add_mul, Nat.one_mul]
    · exact ((Keeps.refl h _).set (fun _ => ⟨hb, n, rfl⟩) _).row _ _ _

end Go.Proofs.Ytmenfnapbggglaa

/- short. -/
set_option linter.unusedSimpArgs false
set_option linter.unusedVariables false
namespace Go.Proofs.Ytmenfnapbggglaa
open Go.Ev

def cutM (m : Msg) : Msg := if 600 < slen m.b then ⟨m.fr, m.to, m.b.extract 0 600⟩ else m
def cut (l : List Msg) : List Msg := (l.take 300).map cutM

theorem cut_length (l : List Msg) : (cut l).length = min 300 l.length := by simp [cut]

theorem mcells_snoc (l : List Msg) (m : Msg) : mcells (l ++ [m]) = mcells l ++ m.cells := by simp [mcells]

theorem keeps_none {h h' : H} (k : Keeps h h' fun b => h.size ≤ b) : Keeps h h' fun _ => False := ⟨k.1, fun b hb _ => k.2 b hb (by omega)⟩

theorem short_loop (F0 : Nat) {c : CF} {v : Value} {l : List Msg} {h0 : H} (m0 : MsgsAt h0 v l) {ke : Nat → K} {kr : K} {Q : Value → H → Prop}
    (hk : ∀ acc h i, OwnRow h acc 3 (cut l).length (mcells (cut l)) h0.size → Keeps h0 h (fun _ => False) → Ans (ke 0 [(0, v), (3, acc), (4, i), (13, .bool false)] h []) Q) :
    ∀ (n i : Nat) (acc : Value) (h : H), i ≤ (cut l).length → 301 ≤ n + i → OwnRow h acc 3 i (mcells ((cut l).take i)) h0.size → Keeps h0 h (fun _ => False) →
      Ans (loopK F0 c [0, 3, 4] l14_9 ke kr n [(0, v), (3, acc), (4, .int .i64 i)] h []) Q := by
  have hcl := cut_length l
  intro n
  induction n with
  | zero => intro i acc h hi hn; omega
  | succ n ih =>
    intro i acc h hi hn o k
    have hlen : ∃ vb vn, v = .slice vb l.length vn ∧ (vb = none → l.length = 0 ∧ vn = 0) := by
      rcases m0 with ⟨rfl, rfl⟩ | ⟨b, o, c, cs, es, lv, an, h1, h2, h3, h4⟩
      · exact ⟨none, 0, rfl, fun _ => ⟨rfl, rfl⟩⟩
      · exact ⟨_, _, h1, nofun⟩
    rw [loopK_succ]
    generalize loopK F0 c [0, 3, 4] l14_9 ke kr n = again at ih ⊢
    simp [l14_9, r14_3]
    by_cases hil : i < (cut l).length
    · have hil' : i < l.length := by omega
      obtain ⟨b, o', cp, cs, es, lv, an, rfl, hb, hcs, hr⟩ := (m0.keeps k).read hil'
      have hbs := lt_of_get hb
      have h300 : (i : Int) < 300 := by omega
      simp [hil', h300, r14_4, hb, hcs, hr]
      have tail : ∀ h1 : H, hget h1 h.size = some (.cells (cutM l[i]).cells 0 true []) → Keeps h h1 (fun _ => False) →
          Ans (evC F0 c (.region r14_7 [0, 3, 4]) (evC F0 c (.region r14_8 [0, 3, 4]) (keepK [0, 3, 4] again) ke kr) (putK 1 (evC F0 c (.region r14_8 [0, 3, 4]) (keepK [0, 3, 4] again) ke kr) ke) kr
            [(0, .slice (some ⟨b, o', none⟩) l.length cp), (3, acc), (4, .int .i64 i), (5, .pointer (some ⟨h.size, 0, none⟩))] h1 []) Q := by
        intro h1 hg k1
        have hgs := lt_of_get hg
        have hks := k.1
        have o1 : OwnRow (Ev.newRow h1 (cutM l[i]).cells 3 []) acc 3 i (mcells ((cut l).take i)) h0.size :=
          o.keeps (k1.row _ _ _) (by simp)
        obtain ⟨h2, e2, s2, o2, k2⟩ := append1 (bytes := 32) (by simp; omega) o1 (cutM l[i]).cells rfl (by omega)
        have hw : IntKind.i64.wrap ((i : Int) + 1) = ((i + 1 : Nat) : Int) := by rw [wrap_in (by omega) (by omega)]; omega
        simp [Msg.cells] at hg e2
        simp [r14_7, r14_8, hg, srcOf, e2, hw]
        refine ih (i + 1) _ h2 hil (by omega) ?_ ?_
        · rw [List.take_add_one, List.getElem?_eq_getElem hil, Option.toList_some, mcells_snoc]
          have : (cut l)[i] = cutM l[i] := by simp [cut]
          rw [this]
          simpa using o2
        · exact keeps_none (((k.trans k1).weak (by simp)).trans ((((Keeps.refl h1 _).row _ _ _).trans (k2.weak fun _ q => q.1))))
      simp [r14_5]
      by_cases h600 : 600 < slen l[i].b
      · have h600' : (600 : Int) < (slen l[i].b : Int) := by omega
        have hle : 600 ≤ slen l[i].b := by omega
        simp [h600', r14_6, hle]
        refine tail _ ?_ ?_
        · simp [cutM, h600, Msg.cells]
        · repeat first | exact Keeps.refl _ _ | apply Keeps.row | refine Keeps.set_new ?_ (by omega) _
      · have h600' : ¬ (600 : Int) < (slen l[i].b : Int) := by omega
        simp [h600']
        refine tail _ ?_ ?_
        · simp [cutM, h600, Msg.cells]
        · repeat first | exact Keeps.refl _ _ | apply Keeps.row | refine Keeps.set_new ?_ (by omega) _
    · obtain ⟨vb, vn, rfl, hv⟩ := hlen
      have hie : i = (cut l).length := by omega
      have ho : OwnRow h acc 3 (cut l).length (mcells (cut l)) h0.size := by
        rw [hie, List.take_of_length_le (Nat.le_refl _)] at o; exact o
      cases vb with
      | none =>
        obtain ⟨h1, rfl⟩ := hv rfl
        have hi0 : i = 0 := by omega
        subst hi0
        have := hk acc h (.int .i64 0) ho k
        simp [h1] at this ⊢
        exact this
      | some a =>
        have := hk acc h (.int .i64 i) ho k
        by_cases h1 : i < l.length
        · have h300 : ¬ (i : Int) < 300 := by omega
          simp [h1, h300]
          exact this
        · simp [h1]
          exact this

theorem short_spec (F : Nat) (hF : 301 ≤ F) {v : Value} {l : List Msg} {h : H} (m : MsgsAt h v l) :
    Ans (cf (F + 1) 14 [v] h) fun r h' => OwnRow h' r 3 (cut l).length (mcells (cut l)) h.size ∧ Keeps h h' fun _ => False := by
  rw [cf_step (a := a14) rfl rfl (by simp [a14])]
  simp [a14, r14_0, r14_1, r14_2]
  refine short_loop F m ?_ F 0 _ h (by simp) (by omega) (.inl ⟨rfl, rfl, rfl⟩) (Keeps.refl _ _)
  intro acc h' i o k
  simp [r14_10]
  exact Ans.of ⟨o, k⟩

end Go.Proofs.Ytmenfnapbggglaa

/- Send of the program's line. -/
set_option linter.unusedSimpArgs false
set_option linter.unusedVariables false
namespace Go.Proofs.Ytmenfnapbggglaa
open Go.Ev

def sendM : Flight → Int → List Msg → Flight × Int × List Int
  | fl, last, [] => (fl, last, [])
  | fl, last, m :: r => if 256 ≤ fl.length then ((sendM fl last r).1, (sendM fl last r).2.1, -1 :: (sendM fl last r).2.2)
    else ((sendM (fl ++ [(last + 1, (m, false))]) (last + 1) r).1, (sendM (fl ++ [(last + 1, (m, false))]) (last + 1) r).2.1, (last + 1) :: (sendM (fl ++ [(last + 1, (m, false))]) (last + 1) r).2.2)

theorem sendM_fl : ∀ (l : List Msg) {fl : Flight} {last : Int}, Fl fl last → Fl (sendM fl last l).1 (sendM fl last l).2.1 ∧ (sendM fl last l).2.1 ≤ last + l.length ∧ (sendM fl last l).2.2.length = l.length
  | [], _, _, w => ⟨w, by simp [sendM], rfl⟩
  | m :: r, fl, last, w => by
    unfold sendM
    split
    · obtain ⟨h1, h2, h3⟩ := sendM_fl r w
      exact ⟨h1, by simp; omega, by simp [h3]⟩
    · obtain ⟨h1, h2, h3⟩ := sendM_fl r (w.put (m, false))
      exact ⟨h1, by simp; omega, by simp [h3]⟩

def ints (l : List Int) : List Value := l.map (.int .i64)

theorem MsgsAt.far {h h' : H} {S : Nat → Prop} {v : Value} {l : List Msg} (m : MsgsAt h v l) (k : Keeps h h' S) (hs : ∀ b o n c, v = .slice (some ⟨b, o, none⟩) n c → ¬ S b) : MsgsAt h' v l := by
  rcases m with m | ⟨b, o, c, cs, es, lv, an, h1, h2, h3, h4⟩
  · exact .inl m
  · exact .inr ⟨b, o, c, cs, es, lv, an, h1, k.get h2 (hs _ _ _ _ h1), h3, h4⟩

theorem drop_cons {α : Type} {l : List α} {i : Nat} {r : α} {rest : List α} (h : l.drop i = r :: rest) : l.drop (i + 1) = rest ∧ l.take (i + 1) = l.take i ++ [r] := by
  have h0 : l[i]? = some r := by
    have := congrArg (fun q => q[0]?) h
    simpa using this
  constructor
  · have := congrArg List.tail h
    simpa using this
  · rw [List.take_add_one, h0]; rfl

/-- Where the line's map is now, if it was there or not. -/
def Later (B : Nat) (m m' : Option Nat) : Prop := m' = m ∨ (m = none ∧ ∃ x, m' = some x ∧ B ≤ x)

theorem send_loop (F : Nat) {c : CF} (hc : c = cf (F + 1)) {F0 : Nat} {v : Value} {l : List Msg} {h0 : H} {b : Nat} {m0 : Option Nat} (mv : MsgsAt h0 v l) (hb0 : b < h0.size)
    (hfar : ∀ x o n c, v = .slice (some ⟨x, o, none⟩) n c → ¬ (x = b ∨ m0 = some x)) {ke : Nat → K} {kr : K} {Q : Value → H → Prop} {fe : Flight} {le : Int} {ne : List Int}
    (hk : ∀ acc h i m, OwnRow h acc 1 ne.length (ints ne) h0.size → Keeps h0 h (fun x => x = b ∨ m0 = some x) → LineAt h b m fe le → Later h0.size m0 m →
      Ans (ke 0 [(0, .pointer (some ⟨b, 0, none⟩)), (5, acc), (8, v), (9, .int .i64 l.length), (10, i), (11, .bool false)] h []) Q) :
    ∀ (n i : Nat) (acc : Value) (ns : List Int) (h : H) (m : Option Nat) (fl : Flight) (last : Int), i ≤ l.length → l.length < n + i → ns.length = i → l.length ≤ 100000 → last + (l.length - i : Nat) ≤ 1000000000 →
      sendM fl last (l.drop i) = (fe, le, ne.drop i) → ne.take i = ns → Fl fl last →
      OwnRow h acc 1 i (ints ns) h0.size → Keeps h0 h (fun x => x = b ∨ m0 = some x) → LineAt h b m fl last → Later h0.size m0 m →
      Ans (loopK F0 c [0, 5, 8, 9, 10] l16_7 ke kr n [(0, .pointer (some ⟨b, 0, none⟩)), (5, acc), (8, v), (9, .int .i64 l.length), (10, .int .i64 i)] h []) Q := by
  intro n
  induction n with
  | zero => intro i acc ns h m fl last hi hn; omega
  | succ n ih =>
    intro i acc ns h m fl last hi hn hns hmax hlast hsend htk hfl o k la lat
    rw [loopK_succ]
    generalize loopK F0 c [0, 5, 8, 9, 10] l16_7 ke kr n = again at ih ⊢
    by_cases hil : i < l.length
    · have mv1 := mv.far k hfar
      obtain ⟨vb, vo, cp, cs, es, lv, an, rfl, hb, hcs, hr⟩ := mv1.read hil
      have hbs := lt_of_get hb
      have hks := k.1
      simp [l16_7, r16_3, hil, r16_4, r16_5, hb, hcs, hr]
      have la1 := la.keeps0 (((Keeps.refl h _).row [.int .i64 0, .int .i64 0, .string { data := #[] }] 0 []).set_new (Nat.le_refl _) (.cells [.int .i64 (l[i]).fr, .int .i64 (l[i]).to, .string (l[i]).b] 0 true []))
      have hput := put_spec F la1 hfl (by omega) (l[i], false)
      rw [← hc] at hput
      refine Ans.next hput ?_
      intro w h2 hq
      have hdrop : l.drop i = l[i] :: l.drop (i + 1) := List.drop_eq_getElem_cons hil
      rw [hdrop] at hsend
      have hbB : ∀ x, h0.size ≤ x → ¬ x = b := fun x hx e => by omega
      have step : ∀ (r : Int) (h2 : H) (m2 : Option Nat) (fl2 : Flight) (last2 : Int), ne.drop i = r :: ne.drop (i + 1) → ne.take (i + 1) = ns ++ [r] → sendM fl2 last2 (l.drop (i + 1)) = (fe, le, ne.drop (i + 1)) → last2 + (l.length - (i + 1) : Nat) ≤ 1000000000 → Fl fl2 last2 →
          OwnRow h2 acc 1 i (ints ns) h0.size → Keeps h0 h2 (fun x => x = b ∨ m0 = some x) → LineAt h2 b m2 fl2 last2 → Later h0.size m0 m2 →
          Ans (evR c [⟨some 19, none, .op (.mkSlice 1 1 [.int .i64 0] [(0, 1, .tmp 18)])⟩, ⟨some 20, none, .op (.append false 1 8 (.tmp 14) (.tmp 19))⟩, ⟨some 5, none, .op (.mv (.tmp 20))⟩]
            (setD [(17, pval (l[i], false)), (16, (l[i]).val), (15, .pointer (some ⟨b, 0, none⟩)), (14, acc), (0, .pointer (some ⟨b, 0, none⟩)), (5, acc), (7, .pointer (some ⟨h.size, 0, none⟩)), (8, .slice (some ⟨vb, vo, none⟩) l.length cp), (9, .int .i64 l.length), (10, .int .i64 i)] (some 18) (.int .i64 r)) h2
            (evC F0 c (.region r16_6 [0, 5, 8, 9, 10]) (keepK [0, 5, 8, 9, 10] again) ke kr) [0, 5, 8, 9, 10] []) Q := by
        intro r h2 m2 fl2 last2 e1 e2 e3 e4 hfl2 o2 k2 la2 lat2
        have hk2s := k2.1
        have la3 := la2.keeps0 ((Keeps.refl h2 _).row [.int .i64 r] 1 [])
        have o3 : OwnRow (Ev.newRow h2 [.int .i64 r] 1 []) acc 1 i (ints ns) h0.size := o2.keeps ((Keeps.refl h2 (fun _ => False)).row _ _ _) (by simp)
        obtain ⟨h4, e5, s4, o4, k4⟩ := append1 (bytes := 8) (by simp; omega) o3 [.int .i64 r] rfl (by omega)
        have hw : IntKind.i64.wrap ((i : Int) + 1) = ((i + 1 : Nat) : Int) := by rw [wrap_in (by omega) (by omega)]; omega
        simp at e5
        simp [srcOf, e5, r16_6, hw]
        refine ih (i + 1) _ (ns ++ [r]) h4 m2 fl2 last2 hil (by omega) (by simp [hns]) hmax e4 e3 e2 hfl2 ?_ ?_ (la3.keeps k4 ?_ ?_) lat2
        · simpa [ints] using o4
        · exact k2.past (((Keeps.refl h2 _).row _ _ _).trans (k4.weak fun _ q => .inr q.1))
        · rintro ⟨q, _⟩; omega
        · rintro x hx ⟨q1, n', q2⟩
          obtain ⟨an', q3⟩ := o3.at q2
          rw [(la3.yes x hx).2] at q3
          cases q3
      have hcellsNot : ∀ (hA : H) (flA : Flight) (lastA : Int), LineAt hA b m flA lastA → ∀ x cs' es' an', h0.size ≤ x → hget hA x = some (.cells cs' es' true an') → ¬ (x = b ∨ m = some x) := by
        rintro hA flA lastA lA x cs' es' an' hx hg (rfl | hm)
        · omega
        · rw [(lA.yes x hm).2] at hg; cases hg
      by_cases hfull : 256 ≤ fl.length
      · rw [if_pos hfull] at hq
        obtain ⟨rfl, k2⟩ := hq
        unfold sendM at hsend
        rw [if_pos hfull] at hsend
        have hne : ne.drop i = -1 :: (sendM fl last (l.drop (i + 1))).2.2 := by injection hsend with _ q; injection q with _ q; exact q.symm
        obtain ⟨d1, d2⟩ := drop_cons hne
        rw [htk] at d2
        refine step (-1) h2 m fl last (by rw [d1]; exact hne) d2 ?_ (by omega) hfl ?_ ?_ ?_ lat
        · rw [d1]
          injection hsend with q1 q; injection q with q2 q3
          rw [← q1, ← q2]
        · exact o.keeps (((Keeps.refl h (fun _ => False)).row _ _ _).set_new (Nat.le_refl _) _ |>.trans k2) (by simp)
        · exact k.trans ((((Keeps.refl h (fun _ => False)).row _ _ _).set_new (Nat.le_refl _) _ |>.trans k2).weak (fun _ q => q.elim))
        · exact la1.keeps0 k2
      · rw [if_neg hfull] at hq
        obtain ⟨rfl, k2, m', la2, hm'⟩ := hq
        unfold sendM at hsend
        rw [if_neg hfull] at hsend
        have hne : ne.drop i = (last + 1) :: (sendM (fl ++ [(last + 1, (l[i], false))]) (last + 1) (l.drop (i + 1))).2.2 := by injection hsend with _ q; injection q with _ q; exact q.symm
        obtain ⟨d1, d2⟩ := drop_cons hne
        rw [htk] at d2
        have hA : Keeps h (Array.setIfInBounds (Ev.newRow h [.int .i64 0, .int .i64 0, .string { data := #[] }] 0 []) h.size (.cells [.int .i64 (l[i]).fr, .int .i64 (l[i]).to, .string (l[i]).b] 0 true [])) fun _ => False := ((Keeps.refl h _).row _ _ _).set_new (Nat.le_refl _) _
        refine step (last + 1) h2 (some m') _ _ (by rw [d1]; exact hne) d2 ?_ (by omega) (hfl.put _) ?_ ?_ la2 ?_
        · rw [d1]
          injection hsend with q1 q; injection q with q2 q3
          rw [← q1, ← q2]
        · have oA := o.keeps hA (by simp)
          exact oA.keeps' k2 fun x an hx hg => hcellsNot _ _ _ la1 x _ _ _ hx hg
        · refine k.past ((hA.weak (fun _ q => q.elim)).trans (k2.weak fun x q => ?_))
          rcases q with q | q
          · exact .inl (.inl q)
          · rcases lat with rfl | ⟨_, y, e, hy⟩
            · exact .inl (.inr q)
            · rw [e] at q; cases q; exact .inr hy
        · rcases hm' with e | ⟨e, e'⟩
          · rcases lat with rfl | ⟨q1, y, q2, hy⟩
            · exact .inl e.symm
            · rw [q2] at e; cases e; exact .inr ⟨q1, _, rfl, hy⟩
          · simp at e'
            rcases lat with rfl | ⟨q1, y, q2, hy⟩
            · exact .inr ⟨e, m', rfl, by omega⟩
            · rw [q2] at e; cases e
    · have hie : i = l.length := by omega
      subst hie
      simp [l16_7, r16_3]
      rw [List.drop_of_length_le (Nat.le_refl _)] at hsend
      unfold sendM at hsend
      injection hsend with q1 q; injection q with q2 q3
      subst q1 q2
      have hn : ne = ns := by
        rw [← htk]
        have := List.take_append_drop l.length ne
        rw [← q3, List.append_nil] at this
        exact this.symm
      subst hn
      rw [hns] at hk
      exact hk acc h (.int .i64 l.length) m o k la lat

theorem send_spec (F : Nat) {v : Value} {l : List Msg} {h : H} {b : Nat} {m : Option Nat} {fl : Flight} {last : Int} (hF : l.length ≤ F) (hl : l.length ≤ 100000) (mv : MsgsAt h v l) (la : LineAt h b m fl last) (w : Fl fl last) (hlast : last + l.length ≤ 1000000000)
    (hfar : ∀ x o n c, v = .slice (some ⟨x, o, none⟩) n c → ¬ (x = b ∨ m = some x)) :
    Ans (cf (F + 2) 16 [.pointer (some ⟨b, 0, none⟩), v] h) fun r h' => OwnRow h' r 1 l.length (ints (sendM fl last l).2.2) h.size ∧ (Keeps h h' fun x => x = b ∨ m = some x) ∧
      ∃ m', LineAt h' b m' (sendM fl last l).1 (sendM fl last l).2.1 ∧ Later h.size m m' := by
  have hbs := lt_of_get la.line
  obtain ⟨_, _, hnl⟩ := sendM_fl l w
  rw [cf_step (a := a16) rfl rfl (by simp [a16])]
  have hlen : ∃ vb vn, v = .slice vb l.length vn ∧ (vb = none → l.length = 0 ∧ vn = 0) := by
    rcases mv with ⟨rfl, rfl⟩ | ⟨b, o, c, cs, es, lv, an, h1, h2, h3, h4⟩
    · exact ⟨none, 0, rfl, fun _ => ⟨rfl, rfl⟩⟩
    · exact ⟨_, _, h1, nofun⟩
  have main := send_loop F rfl (F0 := F + 1) mv hbs hfar (ke := putK 0 (evC (F + 1) (cf (F + 1)) (.seq (.region r16_8 [4]) .ret) (endK (cfX fun _ => none) [.tmp 4]) noK (endK (cfX fun _ => none) [.tmp 4])) noK)
    (kr := endK (cfX fun _ => none) [.tmp 4])
    (Q := fun r h' => OwnRow h' r 1 l.length (ints (sendM fl last l).2.2) h.size ∧ (Keeps h h' fun x => x = b ∨ m = some x) ∧ ∃ m', LineAt h' b m' (sendM fl last l).1 (sendM fl last l).2.1 ∧ Later h.size m m')
    (fe := (sendM fl last l).1) (le := (sendM fl last l).2.1) (ne := (sendM fl last l).2.2)
    (by
      intro acc h' i m' o k la' lat
      simp [r16_8]
      rw [hnl] at o
      exact Ans.of ⟨o, k, m', la', lat⟩)
    (F + 1) 0 (.slice none 0 0) [] h m fl last (by omega) (by omega) rfl hl (by simpa using hlast) rfl rfl w (.inl ⟨rfl, rfl, rfl⟩) (Keeps.refl _ _) la (.inl rfl)
  obtain ⟨vb, vn, rfl, hv⟩ := hlen
  cases vb with
  | none =>
    obtain ⟨h1, rfl⟩ := hv rfl
    simp [h1] at main
    simp [a16, r16_0, r16_1, r16_2, h1]
    exact main
  | some a =>
    simp [a16, r16_0, r16_1, r16_2]
    exact main

end Go.Proofs.Ytmenfnapbggglaa

/- Spoil of the program's line. -/
set_option linter.unusedSimpArgs false
set_option linter.unusedVariables false
namespace Go.Proofs.Ytmenfnapbggglaa
open Go.Ev

/-- A byte turned. -/
def xorB (x : UInt8) (turn : Int) : UInt8 := UInt8.ofNat (uxor .u8 x.toNat (IntKind.u8.wrap turn)).toNat

theorem xorB_int (x : UInt8) (turn : Int) : uxor .u8 x.toNat (IntKind.u8.wrap turn) = ((xorB x turn).toNat : Int) := by
  have := uxor_u8 x.toNat (IntKind.u8.wrap turn)
  unfold xorB
  rw [UInt8.toNat_ofNat']
  omega

def turnB (t : ByteArray) (i : Nat) (turn : Int) : ByteArray := ⟨⟨t.data.toList.set i (xorB (t.data.toList.getD i 0) turn)⟩⟩

theorem strOf_bytes : ∀ l : List UInt8, strOf (l.map fun b => .int .u8 b.toNat) = some l
  | [] => rfl
  | c :: l => by simp [strOf, strOf_bytes l]

set_option maxHeartbeats 2000000 in
theorem spoil_spec (F : Nat) {h : H} {b : Nat} {m : Option Nat} {fl : Flight} {last : Int} (l : LineAt h b m fl last) (n at' turn : Int) :
    Ans (cf (F + 2) 18 [.pointer (some ⟨b, 0, none⟩), .int .i64 n, .int .i64 at', .int .i64 turn] h) fun v h' =>
      match lk n fl 0 with
      | none => v = .int .i64 160 ∧ Keeps h h' fun _ => False
      | some (i, p) => if at' < 0 ∨ turn < 1 ∨ 255 < turn ∨ slen p.1.b = 0 then v = .int .i64 1 ∧ Keeps h h' fun _ => False
        else if p.2 = true then v = .int .i64 161 ∧ Keeps h h' fun _ => False
        else v = .int .i64 0 ∧ (Keeps h h' fun x => m = some x) ∧ LineAt h' b m (fl.set i (n, ⟨p.1.fr, p.1.to, turnB p.1.b (at' % slen p.1.b).toNat turn⟩, true)) last := by
  have hbs := lt_of_get l.line
  rw [cf_step (a := a18) rfl rfl (by simp [a18])]
  simp [a18, r18_0, r18_1]
  refine Ans.next (look_spec F l n) ?_
  rintro v h1 ⟨rfl, k1⟩
  have l1 := l.keeps0 k1
  have hb := l1.line
  have hbs1 := lt_of_get hb
  have k1' := k1.1
  cases hlk : lk n fl 0 with
  | none =>
    simp [Msg.zero, Msg.val, Msg.cells, r18_2, r18_3]
    refine Ans.of ?_
    refine ⟨rfl, ?_⟩
    exact Keeps.set_new (Keeps.row k1 _ _ _) k1' _
  | some q =>
    obtain ⟨i, p⟩ := q
    obtain ⟨x, rfl⟩ := l.some_of hlk
    have hx0 := lt_of_get (l.yes x rfl).2
    obtain ⟨hx1, hx2⟩ := l1.yes x rfl
    have hxs := lt_of_get hx2
    have hf := findM_ents n fl 0
    rw [hlk] at hf
    simp [Msg.val, Msg.cells, r18_2, r18_4]
    by_cases c1 : at' < 0
    · simp [c1, r18_5]
      refine Ans.of ?_
      refine ⟨rfl, ?_⟩
      exact Keeps.set_new (Keeps.row k1 _ _ _) k1' _
    by_cases c2 : turn < 1
    · simp [c1, c2, r18_5]
      refine Ans.of ?_
      refine ⟨rfl, ?_⟩
      exact Keeps.set_new (Keeps.row k1 _ _ _) k1' _
    by_cases c3 : 255 < turn
    · simp [c1, c2, c3, r18_5]
      refine Ans.of ?_
      refine ⟨rfl, ?_⟩
      exact Keeps.set_new (Keeps.row k1 _ _ _) k1' _
    by_cases c4 : slen p.1.b = 0
    · have c4' : (((slen p.1.b : Nat) : Int) == 0) = true := by simp [c4]
      simp [c4', c1, c2, c3, c4, r18_5]
      refine Ans.of ?_
      refine ⟨rfl, ?_⟩
      exact Keeps.set_new (Keeps.row k1 _ _ _) k1' _
    have c4' : (((slen p.1.b : Nat) : Int) == 0) = false := by simp [c4]
    have c4z : ¬ ((slen p.1.b : Nat) : Int) = 0 := by omega
    simp [c4', c1, c2, c3, c4, r18_6, hb, hbs, hbs1, hxs, hx2, hf, ne_at hbs1, ne_at' hbs1, ne_at hxs, ne_at' hxs, pval, pcells, Msg.cells]
    cases c5 : p.2 with
    | true =>
      simp [r18_7]
      refine Ans.of ?_
      refine ⟨rfl, ?_⟩
      exact Keeps.set_new (Keeps.row k1 _ _ _) k1' _
    | false =>
      obtain ⟨j, hj⟩ : ∃ j : Nat, (at' % (slen p.1.b : Int)).toNat = j := ⟨_, rfl⟩
      have hjl : j < slen p.1.b := by
        have := Int.emod_lt_of_pos at' (show (0 : Int) < (slen p.1.b : Int) by omega)
        have := Int.emod_nonneg at' c4z
        omega
      have htm : at'.tmod (slen p.1.b : Int) = (j : Int) := by
        rw [Int.tmod_eq_emod_of_nonneg (by omega)]
        have := Int.emod_nonneg at' c4z
        omega
      rw [hj]
      obtain ⟨c, hc⟩ : ∃ c, p.1.b.data.toList.getD j 0 = c := ⟨_, rfl⟩
      have hdl : j < p.1.b.data.toList.length := by
        have : p.1.b.data.toList.length = slen p.1.b := by rw [Array.length_toList]; rfl
        omega
      have hget : (bytesOf p.1.b).drop j = .int .u8 c.toNat :: (bytesOf p.1.b).drop (j + 1) := by
        have h1 : p.1.b.data.toList.drop j = c :: p.1.b.data.toList.drop (j + 1) := by
          rw [List.drop_eq_getElem_cons hdl, ← hc, List.getD_eq_getElem?_getD, List.getElem?_eq_getElem hdl]; rfl
        unfold bytesOf
        rw [← List.map_drop, h1, List.map_cons, List.map_drop]
      have hjl' : j + 1 ≤ slen p.1.b := hjl
      have hstr : strOf ((bytesOf p.1.b).take j ++ .int .u8 (uxor .u8 c.toNat (IntKind.u8.wrap turn)) :: (bytesOf p.1.b).drop (j + 1)) = some (turnB p.1.b j turn).data.toList := by
        have : (bytesOf p.1.b).take j ++ .int .u8 (uxor .u8 c.toNat (IntKind.u8.wrap turn)) :: (bytesOf p.1.b).drop (j + 1) = (turnB p.1.b j turn).data.toList.map fun b => .int .u8 b.toNat := by
          unfold turnB bytesOf
          rw [xorB_int, hc]
          simp only [List.toList_toArray, List.set_eq_take_append_cons_drop, if_pos hdl, List.map_append, List.map_cons, List.map_take, List.map_drop]
        rw [this, strOf_bytes]
      have hlen : (bytesOf p.1.b).length = slen p.1.b := bytesOf_len _
      have hlen2 : ((bytesOf p.1.b).take j ++ .int .u8 (uxor .u8 c.toNat (IntKind.u8.wrap turn)) :: (bytesOf p.1.b).drop (j + 1)).length = slen p.1.b := by
        rw [List.length_append, List.length_cons, List.length_take, List.length_drop, hlen]; omega
      simp [r18_8, r18_9, c4, c4z, htm, hjl, hjl', hget]
      generalize (bytesOf p.1.b).take j ++ .int .u8 (uxor .u8 c.toNat (IntKind.u8.wrap turn)) :: (bytesOf p.1.b).drop (j + 1) = L at hstr hlen2 ⊢
      have htk : L.take (slen p.1.b) = L := List.take_of_length_le (by omega)
      simp [r18_10, c4, hlen2, htk, hstr, hb, hbs1, ne_at hbs1, ne_at' hbs1, ne_far hbs1, ne_far' hbs1, d18_11, hxs, hx2, hf, ne_at hxs, ne_at' hxs, ne_far hxs, ne_far' hxs, r18_12]
      refine Ans.of ?_
      refine ⟨rfl, ?_, ⟨?_, nofun, ?_⟩⟩
      · exact Keeps.set_may (Keeps.set_new (Keeps.set_new (Keeps.row (Keeps.set_new (Keeps.row (k1.weak (fun _ q => q.elim)) _ _ _) k1' _) _ _ _) (Nat.le_succ_of_le k1') _) k1' _) rfl _
      · simp [hbs, hbs1, hb, hx1, hx1.symm, ne_at hbs, ne_at' hbs, ne_at hbs1, ne_at' hbs1, ne_far hbs1, ne_far' hbs1]
      · intro y hy
        cases hy
        refine ⟨hx1, ?_⟩
        simp [hxs, hx0, ne_at hx0, ne_at' hx0, ne_at hxs, ne_at' hxs, ne_far hxs, ne_far' hxs, ents, lt_far hxs, pval, pcells, Msg.cells]

end Go.Proofs.Ytmenfnapbggglaa

/- known, near. -/
set_option linter.unusedSimpArgs false
set_option linter.unusedVariables false
namespace Go.Proofs.Ytmenfnapbggglaa
open Go.Ev

theorem later_some {h : H} {b B : Nat} {m m' : Option Nat} {p : Int × Parcel} {fl : Flight} {last : Int} (l : LineAt h b m' (p :: fl) last) : ∃ x, m' = some x := by
  cases m' with
  | some x => exact ⟨x, rfl⟩
  | none => cases l.no rfl

theorem ab_ac : (turnB str97_98 1 1 == str97_99) = true := by kernel_rfl
theorem ab_len : slen str97_98 = 2 := by kernel_rfl

theorem known_spec (F : Nat) (h : H) : Ans (cf (F + 1 + 2 + 1) 21 [] h) fun r h' => r = .bool true ∧ Keeps h h' fun _ => False := by
  have hnew : ∀ h, cf (F + 1 + 2) 15 [] h = _ := fun h => new_eq (F + 2) h
  have hnum : ∀ n h, cf (F + 1 + 2) 20 [.int .i64 n] h = some (.int .i64 n, h) := fun n h => num_eq (F + 2) n h
  have hsend := @send_spec (F + 1)
  have hspoil := @spoil_spec (F + 1)
  have htake := @take_spec (F + 1)
  rw [cf_step (a := a21) rfl rfl (by simp [a21])]
  generalize cf (F + 1 + 2) = c at hnew hnum hsend hspoil htake ⊢
  simp [a21, r21_0, r21_1, hnew, r21_2, r21_4]
  have hlen := ab_len
  have hac := ab_ac
  generalize str97_98 = ab at hlen hac ⊢
  have la : LineAt (Ev.newRow (Ev.newRow h [.map none, .int .i64 0] 0 []) [.int .i64 1, .int .i64 2, .string ab] 3 []) h.size none [] 0 :=
    ⟨by simp, fun _ => rfl, nofun⟩
  have mv : MsgsAt (Ev.newRow (Ev.newRow h [.map none, .int .i64 0] 0 []) [.int .i64 1, .int .i64 2, .string ab] 3 []) (.slice (some ⟨h.size + 1, 0, none⟩) 1 1) [⟨1, 2, ab⟩] :=
    .inr ⟨h.size + 1, 0, 1, [.int .i64 1, .int .i64 2, .string ab], 3, true, [], rfl, newRow_new (by simp), by simp, rfl⟩
  have k0 : Keeps h (Ev.newRow (Ev.newRow h [.map none, .int .i64 0] 0 []) [.int .i64 1, .int .i64 2, .string ab] 3 []) fun _ => False := ((Keeps.refl _ _).row _ _ _).row _ _ _
  generalize Ev.newRow (Ev.newRow h [.map none, .int .i64 0] 0 []) [.int .i64 1, .int .i64 2, .string ab] 3 [] = h0 at la mv k0 ⊢
  refine Ans.next (hsend (by simp) (by simp) mv la ⟨.nil, by simp, by simp⟩ (by simp) (by
    rintro x o n c e (rfl | e')
    · injection e with e1; injection e1 with e1; injection e1 with e1 e2; simp at e1
    · cases e')) ?_
  rintro r h1 ⟨or1, k1, m', la1, lat⟩
  simp [sendM] at la1 or1
  obtain ⟨x, rfl⟩ := later_some (B := 0) (m := none) la1
  have hx : h0.size ≤ x := by
    rcases lat with e | ⟨_, y, e, hy⟩
    · cases e
    · cases e; exact hy
  have hs0 := k0.1
  have hb0 := lt_of_get la.line
  simp [r21_5]
  refine Ans.next (hspoil la1 1 3 1) ?_
  intro w h2 hw
  simp [lk, hlen] at hw
  obtain ⟨rfl, k2, la2⟩ := hw
  simp [r21_6]
  refine Ans.next (htake la2 1) ?_
  intro w h3 hw
  simp [lk] at hw
  obtain ⟨rfl, k3, la3⟩ := hw
  simp [Msg.val, Msg.cells, r21_7]
  have la4 := la3.keeps0 (((Keeps.refl h3 _).row [.int .i64 0, .int .i64 0, .string { data := #[] }] 0 []).set_new (Nat.le_refl _) (.cells [.int .i64 1, .int .i64 2, .string (turnB ab 1 1)] 0 true []))
  refine Ans.next (htake la4 1) ?_
  intro w h4 hw
  simp [lk] at hw
  obtain ⟨rfl, k4⟩ := hw
  have hp : hget h4 h3.size = some (.cells [.int .i64 1, .int .i64 2, .string (turnB ab 1 1)] 0 true []) := k4.get (by simp) (by simp)
  have hps := lt_of_get hp
  have k34 : Keeps h3 h4 fun _ => False := (((Keeps.refl h3 _).row _ _ _).set_new (Nat.le_refl _) _).trans k4
  have or4 : OwnRow h4 r 1 1 (ints [1]) h0.size := by
    have a2 := or1.keeps' k2 fun b an _ hg e => by cases e; rw [(la1.yes x rfl).2] at hg; cases hg
    have a3 := a2.keeps' k3 fun b an _ hg e => by cases e; rw [(la2.yes x rfl).2] at hg; cases hg
    exact a3.keeps k34 (by simp)
  obtain ⟨q1, _⟩ | ⟨rb, hrb, rfl, ⟨an, hrg, _⟩, _⟩ := or4
  · cases q1
  have hrs := lt_of_get hrg
  simp [Msg.zero, Msg.val, Msg.cells, r21_8, hrg, hrs, hnum, hp, hps, ints, ne_at hrs, ne_at' hrs, ne_at hps, ne_at' hps, hac]
  refine Ans.of ⟨rfl, ?_⟩
  have k01 : Keeps h h1 fun _ => False := k0.past (k1.weak (by rintro y (rfl | e); exact .inr (Nat.le_refl _); cases e))
  have k12 : Keeps h h2 fun _ => False := k01.past (k2.weak (by rintro y rfl; exact .inr (by omega)))
  have k13 : Keeps h h3 fun _ => False := k12.past (k3.weak (by rintro y rfl; exact .inr (by omega)))
  have hs4 := (k13.trans k34).1
  exact ((k13.trans k34).row _ _ _).set_new (by omega) _

end Go.Proofs.Ytmenfnapbggglaa

/- Ev19: what is left as it was, by lists of blocks; a rule for loops; small equations. -/
set_option linter.unusedSimpArgs false
set_option linter.unusedVariables false
namespace Go.Ev

/-- What is left as it was: all that was there, but for the blocks of a list. -/
def Kept (h h' : H) (L : List Nat) : Prop := h.size ≤ h'.size ∧ ∀ b, b < h.size → b ∉ L → hget h' b = hget h b

theorem Kept.refl (h : H) (L : List Nat) : Kept h h L := ⟨Nat.le_refl _, fun _ _ _ => rfl⟩
theorem Kept.trans {h h1 h2 : H} {L : List Nat} (a : Kept h h1 L) (b : Kept h1 h2 L) : Kept h h2 L :=
  ⟨Nat.le_trans a.1 b.1, fun x hx hs => (b.2 x (Nat.lt_of_lt_of_le hx a.1) hs).trans (a.2 x hx hs)⟩
theorem Kept.get {h h' : H} {L : List Nat} (a : Kept h h' L) {b : Nat} (hb : b < h.size) (hs : b ∉ L) : hget h' b = hget h b := a.2 b hb hs
theorem Kept.weak {h h' : H} {L M : List Nat} (a : Kept h h' L) (hs : ∀ b ∈ L, b ∈ M) : Kept h h' M := ⟨a.1, fun b hb h => a.2 b hb fun q => h (hs b q)⟩
theorem Kept.of_nil {h h' : H} {L : List Nat} (a : Kept h h' []) : Kept h h' L := a.weak nofun

/-- A loop: a relation of what is left to do, the slots and the memory. -/
theorem loop_rule {cf : CF} {F0 : Nat} {live : List Nat} {c : ACode} {ke : Nat → K} {kr : K} {ds : Ds} {Q : Value → H → Prop} (I : Nat → Env → H → Prop)
    (step : ∀ m s h again, I m s h → (∀ m' s' h', m' < m → I m' s' h' → Ans (again s' h' ds) Q) → Ans (evC F0 cf c (keepK live again) ke kr s h ds) Q) :
    ∀ fuel m s h, m < fuel → I m s h → Ans (loopK F0 cf live c ke kr fuel s h ds) Q := by
  intro fuel
  induction fuel with
  | zero => intro m s h hm; omega
  | succ n ih =>
    intro m s h hm hi
    rw [loopK_succ]
    exact step m s h _ hi fun m' s' h' hlt hi' => ih m' s' h' (by omega) hi'

theorem wrap_id {n : Int} (h1 : -9223372036854775808 ≤ n) (h2 : n < 9223372036854775808) : IntKind.i64.wrap n = n := wrap_in h1 (by omega)

/-! ### decisions by arithmetic (for simp with omega as its discharger) -/
theorem eqT {a b : Int} (h : a = b) : (a == b) = true := by simpa using h
theorem eqF {a b : Int} (h : ¬ a = b) : (a == b) = false := by simpa using h
theorem neT {a b : Int} (h : ¬ a = b) : (a != b) = true := by simpa using h
theorem neF {a b : Int} (h : a = b) : (a != b) = false := by simpa using h
theorem ltT {a b : Int} (h : a < b) : (a < b) = True := by simpa using h
theorem ltF {a b : Int} (h : ¬ a < b) : (a < b) = False := by simpa using h
theorem leT {a b : Int} (h : a ≤ b) : (a ≤ b) = True := by simpa using h
theorem leF {a b : Int} (h : ¬ a ≤ b) : (a ≤ b) = False := by simpa using h
theorem nltT {a b : Nat} (h : a < b) : (a < b) = True := by simpa using h
theorem nltF {a b : Nat} (h : ¬ a < b) : (a < b) = False := by simpa using h
theorem nleT {a b : Nat} (h : a ≤ b) : (a ≤ b) = True := by simpa using h
theorem nleF {a b : Nat} (h : ¬ a ≤ b) : (a ≤ b) = False := by simpa using h
theorem nneT {a b : Nat} (h : a = b) : (a = b) = True := by simpa using h
theorem nneF {a b : Nat} (h : ¬ a = b) : (a = b) = False := by simpa using h

@[simp] theorem set_push {h : H} {x y : Blk} {b : Nat} (hb : b = h.size) : Array.setIfInBounds (h.push x) b y = h.push y := by
  subst hb
  apply Array.ext
  · simp
  · intro i h1 h2
    simp only [Array.size_setIfInBounds, Array.size_push] at h1
    rw [Array.getElem_setIfInBounds]
    · by_cases e : h.size = i
      · subst e; simp
      · rw [if_neg e, Array.getElem_push_lt (by omega), Array.getElem_push_lt (by omega)]
    · simpa using h1
@[simp] theorem set_row {h : H} {cs : List Value} {es b : Nat} {an : List Nat} {y : Blk} (hb : b = h.size) : Array.setIfInBounds (newRow h cs es an) b y = h.push y := set_push hb
theorem push_row {h : H} {cs : List Value} {es : Nat} {an : List Nat} : h.push (.cells cs es true an) = newRow h cs es an := rfl
attribute [simp] push_row

/-! ### drawn regions in which nothing is read beside a write: no record is kept -/
def evE (cf : CF) (l : List DOp) (s : Env) (h : H) (kn : K) (keep : List Nat) (ds : Ds) : Res := goD cf l s h fun _ s' h' => kn (s'.keep keep) h' ds
def nextE (x : Option (Value × H)) (cf : CF) (d : Option Nat) (l : List DOp) (s : Env) (kn : K) (keep : List Nat) (ds : Ds) : Res := match x with
  | some (v, h') => evE cf l (setD s d v) h' kn keep ds
  | none => none
def guardE (v : Value) (b : Bool) (ac : AAct) (cf : CF) (d : Option Nat) (l : List DOp) (e s : Env) (h : H) (kn : K) (keep : List Nat) (ds : Ds) : Res := match v with
  | .bool c => bif c == b then nextE (evAct cf ac e h) cf d l s kn keep ds else evE cf l (setD s d unset) h kn keep ds
  | .tuple ⟨[]⟩ => evE cf l (setD s d unset) h kn keep ds
  | _ => none
section
variable {cf : CF} {F : Nat} {s e : Env} {h : H} {kn kr : K} {ke : Nat → K} {ds : Ds} {keep : List Nat} {d : Option Nat} {v : Value} {l : List DOp}
@[simp high] theorem evC_regionE {ops : List DOp} : evC F cf (.regionD ops [] keep) kn ke kr s h ds = evE cf ops s h kn keep ds := by
  show evRegionD cf ops [] s h _ = _
  unfold evE evRegionD
  rw [goD_eq]
  cases trace cf ops s h with
  | none => rfl
  | some p => obtain ⟨a, b, c⟩ := p; simp [chks]
@[simp] theorem evE_nil : evE cf [] s h kn keep ds = kn (s.keep keep) h ds := nr rfl
@[simp] theorem evE_op {i : Nat} {o : AOp} {sl : List Nat} : evE cf (⟨i, ⟨d, none, .op o⟩, sl⟩ :: l) s h kn keep ds = nextE (evOp o (s.keep sl) h) cf d l s kn keep ds := by
  simp only [evE, goD, wantedA, evAct, nextE]
  cases evOp o (s.keep sl) h with
  | none => rfl
  | some p => rfl
@[simp] theorem evE_call {i : Nat} {f : Operand} {args : List Operand} {sl : List Nat} : evE cf (⟨i, ⟨d, none, .call f args⟩, sl⟩ :: l) s h kn keep ds = nextE (callV cf (aeval (s.keep sl) f) (args.map (aeval (s.keep sl))) h) cf d l s kn keep ds := by
  have e : evAct cf (.call f args) (s.keep sl) h = callV cf (aeval (s.keep sl) f) (args.map (aeval (s.keep sl))) h := by
    simp only [evAct, callV]
    split <;> (rename_i hf; split <;> simp_all)
  rw [← e]
  simp only [evE, goD, wantedA, nextE]
  cases evAct cf (.call f args) (s.keep sl) h with
  | none => rfl
  | some p => rfl
@[simp] theorem evE_guard {i t : Nat} {b : Bool} {ac : AAct} {sl : List Nat} : evE cf (⟨i, ⟨d, some (t, b), ac⟩, sl⟩ :: l) s h kn keep ds = guardE ((s.keep sl).get t) b ac cf d l (s.keep sl) s h kn keep ds := by
  simp only [evE, goD, wantedA, guardE]
  generalize (s.keep sl).get t = u
  cases u with
  | bool c =>
    cases hcb : c == b with
    | true =>
      simp only [hcb, cond_true, nextE]
      cases evAct cf ac (s.keep sl) h with
      | none => rfl
      | some p => rfl
    | false => simp [hcb, evE]
  | tuple vs =>
    obtain ⟨l'⟩ := vs
    cases l' with
    | nil => simp [evE]
    | cons _ _ => rfl
  | _ => rfl
@[simp] theorem nextE_some {h' : H} : nextE (some (v, h')) cf d l s kn keep ds = evE cf l (setD s d v) h' kn keep ds := nr rfl
@[simp] theorem guardE_tt {ac : AAct} : guardE (.bool true) true ac cf d l e s h kn keep ds = nextE (evAct cf ac e h) cf d l s kn keep ds := nr rfl
@[simp] theorem guardE_ff {ac : AAct} : guardE (.bool false) false ac cf d l e s h kn keep ds = nextE (evAct cf ac e h) cf d l s kn keep ds := nr rfl
@[simp] theorem guardE_tf {ac : AAct} : guardE (.bool true) false ac cf d l e s h kn keep ds = evE cf l (setD s d unset) h kn keep ds := nr rfl
@[simp] theorem guardE_ft {ac : AAct} : guardE (.bool false) true ac cf d l e s h kn keep ds = evE cf l (setD s d unset) h kn keep ds := nr rfl
@[simp] theorem guardE_un {b : Bool} {ac : AAct} : guardE unset b ac cf d l e s h kn keep ds = evE cf l (setD s d unset) h kn keep ds := nr rfl
theorem Ans.nextE {x : Option (Value × H)} {Q R : Value → H → Prop} (a : Ans x Q) (hk : ∀ v h, Q v h → Ans (evE cf l (setD s d v) h kn keep ds) R) : Ans (Ev.nextE x cf d l s kn keep ds) R := by
  obtain ⟨v, h, rfl, q⟩ := a; exact hk v h q
theorem evAct_call {f : Operand} {args : List Operand} : evAct cf (.call f args) s h = callV cf (aeval s f) (args.map (aeval s)) h := by
  simp only [evAct, callV]
  split <;> (rename_i hf; split <;> simp_all)
attribute [simp] evAct_call
theorem Ans.nextD {x : Option (Value × H)} {Q R : Value → H → Prop} {ts : List TR} {q : DK} (a : Ans x Q) (hk : ∀ v h', Q v h' → Ans (evD cf l (ts ++ [⟨e, h, true, v⟩]) (setD s d v) h' q) R) : Ans (Ev.nextD x cf d l ts e s h q) R := by
  obtain ⟨v, h, rfl, q⟩ := a; exact hk v h q
end

/-- An append whose source is known. -/
def appV (src : Option (Nat × List Value)) (h : H) (es bytes : Nat) (d : Value) : Option (Value × H) := match src with
  | some (n, new) => if new.all oneCell = true then appendTo h es bytes d n new else none
  | none => none
@[simp ↓ high] theorem evOp_append {str : Bool} {es bytes : Nat} {d x : Operand} {s : Env} {h : H} : evOp (.append str es bytes d x) s h = if isText (aeval s x) = str then appV (srcOf h es (aeval s x)) h es bytes (aeval s d) else none := nr rfl
@[simp] theorem appV_some {n : Nat} {new : List Value} {h : H} {es bytes : Nat} {d : Value} : appV (some (n, new)) h es bytes d = if new.all oneCell = true then appendTo h es bytes d n new else none := nr rfl

/-! ### the looks again, one by one -/
def chkA (cf : CF) (d : Option DOp) (t : Option TR) (ts : List TR) (h1 : H) (ps : List Nat) : Bool := match d, t with
  | some d, some t => ps.all fun p => chk1 cf d t (hAt ts h1 p)
  | _, _ => false
def chkV (x : Option (Value × H)) (w : Value) : Bool := match x with
  | some (v, _) => sameV v w
  | none => false
def hOf (x : Option TR) (h1 : H) : H := match x with
  | some t => t.hin
  | none => h1
section
variable {cf : CF} {ops : List DOp} {ts : List TR} {h h1 : H} {wins : List (Nat × List Nat)} {keep : List Nat} {kn : K} {ds : Ds} {s e : Env}
theorem dk_go : DK.go cf ⟨ops, wins, keep, kn, ds⟩ ts s h = if chks cf ops ts h wins = true then kn (s.keep keep) h ds else none := nr rfl
theorem chks_nil : chks cf ops ts h1 [] = true := nr rfl
theorem chks_cons {x : Nat} {ps : List Nat} {r : List (Nat × List Nat)} : chks cf ops ts h1 ((x, ps) :: r) = (chkA cf ops[x]? ts[x]? ts h1 ps && chks cf ops ts h1 r) := by
  simp only [chks, chkA]
  rcases ops[x]? with _ | d <;> rcases ts[x]? with _ | t <;> rfl
theorem chkA_nil {d : DOp} {t : TR} : chkA cf (some d) (some t) ts h1 [] = true := nr rfl
theorem chkA_cons {d : DOp} {t : TR} {p : Nat} {ps : List Nat} : chkA cf (some d) (some t) ts h1 (p :: ps) = (chk1 cf d t (hAt ts h1 p) && chkA cf (some d) (some t) ts h1 ps) := nr rfl
theorem chk1_no {d : DOp} {v : Value} {h0 : H} : chk1 cf d ⟨e, h0, false, v⟩ h = true := nr rfl
theorem chk1_yes {i : Nat} {dst : Option Nat} {g : Option (Nat × Bool)} {ac : AAct} {sl : List Nat} {v : Value} {h0 : H} : chk1 cf ⟨i, ⟨dst, g, ac⟩, sl⟩ ⟨e, h0, true, v⟩ h = chkV (evAct cf ac e h) v := nr rfl
theorem chkV_some {v w : Value} : chkV (some (v, h)) w = sameV v w := nr rfl
theorem hAt_eq {k : Nat} : hAt ts h1 k = hOf ts[k]? h1 := nr rfl
theorem hOf_some {h0 : H} {b : Bool} {v : Value} : hOf (some ⟨e, h0, b, v⟩) h1 = h0 := nr rfl
theorem hOf_none : hOf none h1 = h1 := nr rfl
end

/-- How long a slice is. -/
def lenV : Value → Option Value
  | .slice none 0 0 => some (.int .i64 0)
  | .slice (some _) n _ => some (.int .i64 n)
  | _ => none
@[simp] theorem lenV_nil : lenV (.slice none 0 0) = some (.int .i64 0) := nr rfl
@[simp] theorem lenV_some {a : Addr} {n c : Nat} : lenV (.slice (some a) n c) = some (.int .i64 n) := nr rfl
@[simp ↓ high] theorem evOp_lenSlice {x : Operand} {s : Env} {h : H} : evOp (.lenSlice x) s h = (lenV (aeval s x)).map fun v => (v, h) := by
  show (match aeval s x with
    | .slice none 0 0 => some (Value.int .i64 0, h)
    | .slice (some _) n _ => some (.int .i64 n, h)
    | _ => none) = _
  unfold lenV
  split <;> rfl

theorem fn_id {α : Sort _} {β : Sort _} (f : α → β) {a b : α} (h : a = b) : f a = f b := by rw [h]

end Go.Ev

/- Ev20: what is handed in, cell by cell, as the sealed abstract heap holds it. -/
set_option linter.unusedSimpArgs false
set_option linter.unusedVariables false
namespace Go.Ev

inductive Ty where
  | int (k : IntKind)
  | bool
  | str
  | slice (e : Ty)
  | struct (fs : List Ty)

mutual
def Ty.size : Ty → Nat
  | .int _ => 1
  | .bool => 1
  | .str => 1
  | .slice _ => 1
  | .struct fs => Ty.sizes fs
def Ty.sizes : List Ty → Nat
  | [] => 0
  | f :: fs => f.size + Ty.sizes fs
end

mutual
/-- The program's type is laid out so. -/
def tyOk (P : Program) : Ty → TypeId → Bool
  | .int k, t => match P.underlying t with
    | some (.int k') => k == k'
    | _ => false
  | .bool, t => match P.underlying t with
    | some .bool => true
    | _ => false
  | .str, t => match P.underlying t with
    | some .string => true
    | _ => false
  | .slice e, t => match P.underlying t with
    | some (.slice el) => P.cellsOf el == e.size && decide (0 < e.size) && tyOk P e el
    | _ => false
  | .struct fs, t => match P.underlying t with
    | some (.struct fields) => P.cellsOf t == Ty.sizes fs && fieldsOk P fs fields.toList 0
    | _ => false
def fieldsOk (P : Program) : List Ty → List Field → Nat → Bool
  | [], [], _ => true
  | y :: ys, f :: fs, o => f.offset == o && P.cellsOf f.type == y.size && tyOk P y f.type && fieldsOk P ys fs (o + y.size)
  | _, _, _ => false
end

mutual
/-- Cells of such a type. -/
def CellsT (h : H) : Ty → List Value → Prop
  | .int k, cs => ∃ n, cs = [.int k n] ∧ (Lit.int k n).wf = true
  | .bool, cs => ∃ b, cs = [.bool b]
  | .str, cs => ∃ s : ByteArray, cs = [.string s] ∧ s.size ≤ maxLen
  | .slice e, cs => cs = [.slice none 0 0] ∨ cs = [.slice (some ⟨0, 0, some 0⟩) 0 0] ∨
      ∃ b o n c bs, cs = [.slice (some ⟨b, o, none⟩) n c] ∧ n ≤ c ∧ c ≤ maxLen ∧ b < h.size ∧ hget h b = some (.cells bs 0 false []) ∧ ∀ i, i < n → o + i * e.size + e.size ≤ bs.length ∧ CellsT h e ((bs.drop (o + i * e.size)).take e.size)
  | .struct fs, cs => StructT h fs cs
def StructT (h : H) : List Ty → List Value → Prop
  | [], cs => cs = []
  | f :: fs, cs => f.size ≤ cs.length ∧ CellsT h f (cs.take f.size) ∧ StructT h fs (cs.drop f.size)
end

theorem cells_row {w : World} {base : Nat} {a : Addr} {n : Nat} {cs : List Value} (h : w.cells? base a n = some cs) (hn : 0 < n) :
    ∃ (arr : Array Value) (T : TypeId) (fr : Nat × Nat), w.heap[a.block]? = some (.cells arr T fr) ∧ a.spot = none ∧ a.off + n ≤ arr.size ∧ cs = (arr.toList.drop a.off).take n := by
  obtain ⟨_, hl, hi⟩ := World.cells?_some h
  have h0 := hi 0 hn
  have ha : a.add 0 = a := by simp [Addr.add]
  rw [ha] at h0
  have hs0 : ∃ v, cs[0]? = some v := ⟨cs[0]'(by omega), List.getElem?_eq_getElem (by omega)⟩
  obtain ⟨v0, hv0⟩ := hs0
  rw [hv0] at h0
  unfold World.cell? at h0
  split at h0
  · rename_i c T fr hc
    have hsp : a.spot = none := by
      cases hsp : a.spot with
      | none => rfl
      | some q => rw [hsp] at h0; simp at h0
    have hcell : ∀ i, i < n → c[a.off + i]? = cs[i]? := by
      intro i hi'
      rw [← hi i hi']
      unfold World.cell?
      by_cases hz : i = 0
      · subst hz; rw [ha, hc]; simp [hsp]
      · simp [Addr.add, hz, hc]
    have hsz : a.off + n ≤ c.size := by
      have hlast : cs[n - 1]? = some (cs[n - 1]'(by omega)) := List.getElem?_eq_getElem (by omega)
      have := hcell (n - 1) (by omega)
      rw [hlast] at this
      have := (Array.getElem?_eq_some_iff.1 this).1
      omega
    refine ⟨c, T, fr, hc, hsp, hsz, ?_⟩
    apply List.ext_getElem?
    intro i
    by_cases hi' : i < n
    · rw [← hcell i hi', List.getElem?_take, if_pos hi', List.getElem?_drop, Array.getElem?_toList]
    · rw [List.getElem?_eq_none (by omega), List.getElem?_take, if_neg hi']
  · cases h0

section
variable {HT : Type} {enc : TypeId × Value → HT} {P : Program} {W : World} {base : Nat} {held : Bool}

mutual
theorem open_cells : ∀ (y : Ty) (t : TypeId), tyOk P y t = true → ∀ {fuel : Nat} {cs : List Value} {x : DataW HT × List MemPlace}, DataW.trod enc P W base (fun _ => true) held fuel t cs = some x →
    CellsT (absH W) y (cs.map (absV W.heap.size)) ∧ cs.length = y.size
  | .int k, t, hy, fuel, cs, x, h => by
    unfold tyOk at hy
    split at hy
    · rename_i k' ht
      have hk : k = k' := by simpa using hy
      subst hk
      obtain ⟨n, rfl, _, hw⟩ := DataW.trod_int ht h
      exact ⟨by simp only [CellsT]; exact ⟨n, rfl, hw⟩, rfl⟩
    · cases hy
  | .bool, t, hy, fuel, cs, x, h => by
    unfold tyOk at hy
    split at hy
    · rename_i ht
      obtain ⟨b, rfl, _⟩ := DataW.trod_bool ht h
      exact ⟨by simp only [CellsT]; exact ⟨b, rfl⟩, rfl⟩
    · cases hy
  | .str, t, hy, fuel, cs, x, h => by
    unfold tyOk at hy
    split at hy
    · rename_i ht
      obtain ⟨s, rfl, _, hw⟩ := DataW.trod_string ht h
      exact ⟨by simp only [CellsT]; exact ⟨s, rfl, hw⟩, rfl⟩
    · cases hy
  | .slice e, t, hy, fuel, cs, x, h => by
    unfold tyOk at hy
    split at hy
    · rename_i el ht
      simp only [Bool.and_eq_true, beq_iff_eq, decide_eq_true_eq] at hy
      obtain ⟨⟨hsz, hpos⟩, hel⟩ := hy
      rcases DataW.trod_slice ht h with ⟨rfl, _⟩ | ⟨a, len, cap, elems, rest, n, _, rfl, _, _, hlc, hcm, hlen, hE, hR, _⟩
      · exact ⟨by simp only [CellsT]; exact .inl rfl, rfl⟩
      · refine ⟨?_, rfl⟩
        simp only [CellsT]
        by_cases hc0 : cap = 0
        · subst hc0
          have : len = 0 := by omega
          subst this
          exact .inr (.inl rfl)
        · rw [hsz] at hE hR
          obtain ⟨hrl, hR⟩ := hR rfl
          have hrow : ∀ i, i < cap → ∃ row, W.cells? base (a.add (i * e.size)) e.size = some row := by
            intro i hi
            by_cases hil : i < len
            · have := hE i hil
              obtain ⟨q, hq⟩ : ∃ q, elems[i]? = some q := ⟨_, List.getElem?_eq_getElem (by omega)⟩
              rw [hq] at this
              obtain ⟨row, h1, _⟩ := Option.bind_eq_some_iff.1 this
              exact ⟨row, h1⟩
            · have := hR (i - len) (by omega)
              obtain ⟨q, hq⟩ : ∃ q, rest[i - len]? = some q := ⟨_, List.getElem?_eq_getElem (by omega)⟩
              rw [hq, show len + (i - len) = i by omega] at this
              obtain ⟨row, h1, _⟩ := Option.bind_eq_some_iff.1 this
              exact ⟨row, h1⟩
          obtain ⟨row0, h0⟩ := hrow 0 (by omega)
          rw [Nat.zero_mul, show a.add 0 = a from by simp [Addr.add]] at h0
          obtain ⟨arr, T, fr, hh, hsp, _, _⟩ := cells_row h0 hpos
          obtain ⟨b, o, sp⟩ := a
          simp only at hsp hh
          subst hsp
          have hbl : b < W.heap.size := (Array.getElem?_eq_some_iff.1 hh).1
          refine .inr (.inr ⟨b, o, len, cap, arr.toList.map (absV W.heap.size), ?_, hlc, hcm, by rw [absH_size]; exact hbl, ?_, ?_⟩)
          · simp only [List.map_cons, List.map_nil, absV]
            by_cases hl0 : len = 0
            · subst hl0
              cases cap with
              | zero => exact absurd rfl hc0
              | succ cap => simp [absV, hbl]
            · cases len with
              | zero => exact absurd rfl hl0
              | succ len => simp [absV, hbl, hlc]
          · show (W.heap.map (absB W.heap.size))[b]? = _
            rw [Array.getElem?_map, hh]; rfl
          · intro i hi
            obtain ⟨row, hr⟩ := hrow i (by omega)
            obtain ⟨arr', T', fr', hh', _, hsz', hrow'⟩ := cells_row hr hpos
            have hoff : ((⟨b, o, none⟩ : Addr).add (i * e.size)).off = o + i * e.size := by
              by_cases hz : i * e.size = 0
              · simp [Addr.add, hz]
              · simp [Addr.add, hz]
            have hblk : ((⟨b, o, none⟩ : Addr).add (i * e.size)).block = b := by
              by_cases hz : i * e.size = 0
              · simp [Addr.add, hz]
              · simp [Addr.add, hz]
            rw [hblk, hh] at hh'
            simp only [Option.some.injEq, Obj.cells.injEq] at hh'
            obtain ⟨rfl, _, _⟩ := hh'
            rw [hoff] at hsz' hrow'
            have hEi := hE i hi
            obtain ⟨q, hq⟩ : ∃ q, elems[i]? = some q := ⟨_, List.getElem?_eq_getElem (by omega)⟩
            rw [hq, hr] at hEi
            simp only [Option.bind_some] at hEi
            have hrec := (open_cells e el hel hEi).1
            refine ⟨by simpa using hsz', ?_⟩
            rw [hrow'] at hrec
            simpa [List.map_take, List.map_drop] using hrec
    · cases hy
  | .struct fs, t, hy, fuel, cs, x, h => by
    unfold tyOk at hy
    split at hy
    · rename_i fields ht
      simp only [Bool.and_eq_true, beq_iff_eq] at hy
      obtain ⟨hsz, hf⟩ := hy
      obtain ⟨xs, n, _, _, hl, hlen, hi⟩ := DataW.trod_struct ht h
      rw [hsz] at hl
      refine ⟨?_, by simpa [Ty.size] using hl⟩
      simp only [CellsT]
      have := open_fields fs fields.toList 0 hf (fuel := n) (cs := cs) (by omega) (fun i f hif => by
        have hif' : fields[i]? = some f := by simpa using hif
        have := hi i f hif'
        obtain ⟨q, hq⟩ : ∃ q, xs[i]? = some q := ⟨_, List.getElem?_eq_getElem (by
          have := (Array.getElem?_eq_some_iff.1 hif').1
          omega)⟩
        rw [hq] at this
        exact ⟨q, this⟩)
      simpa using this
    · cases hy
theorem open_fields : ∀ (ys : List Ty) (fs : List Field) (o : Nat), fieldsOk P ys fs o = true → ∀ {fuel : Nat} {cs : List Value}, cs.length = o + Ty.sizes ys →
    (∀ (i : Nat) (f : Field), fs[i]? = some f → ∃ x, DataW.trod enc P W base (fun _ => true) held fuel f.type ((cs.drop f.offset).take (P.cellsOf f.type)) = some x) →
    StructT (absH W) ys ((cs.drop o).map (absV W.heap.size))
  | [], [], o, _, fuel, cs, hl, _ => by
    simp only [StructT, Ty.sizes] at hl ⊢
    simp; omega
  | [], _ :: _, _, h, _, _, _, _ => by simp [fieldsOk] at h
  | _ :: _, [], _, h, _, _, _, _ => by simp [fieldsOk] at h
  | y :: ys, f :: fs, o, h, fuel, cs, hl, hx => by
    simp only [fieldsOk, Bool.and_eq_true, beq_iff_eq] at h
    obtain ⟨⟨⟨h1, h2⟩, h3⟩, h4⟩ := h
    simp only [Ty.sizes] at hl
    obtain ⟨x, hx0⟩ := hx 0 f rfl
    rw [h1, h2] at hx0
    have g1 := (open_cells y f.type h3 hx0).1
    have g2 := open_fields ys fs (o + y.size) h4 (fuel := fuel) (cs := cs) (by omega) (fun i g hg => hx (i + 1) g (by simpa using hg))
    simp only [StructT]
    refine ⟨by simp; omega, ?_, ?_⟩
    · simpa [List.map_take, List.map_drop] using g1
    · simpa [List.map_drop, List.drop_drop, Nat.add_comm] using g2
end

mutual
theorem cellsT_plain {h : H} : ∀ (y : Ty) {cs : List Value}, CellsT h y cs → cs.length = y.size ∧ ∀ x ∈ cs, oneCell x = true ∧ sameCell x x = true
  | .int k, cs, hc => by
    simp only [CellsT] at hc
    obtain ⟨n, rfl, _⟩ := hc
    simp [Ty.size, oneCell, sameCell]
  | .bool, cs, hc => by
    simp only [CellsT] at hc
    obtain ⟨n, rfl⟩ := hc
    simp [Ty.size, oneCell, sameCell]
  | .str, cs, hc => by
    simp only [CellsT] at hc
    obtain ⟨n, rfl, _⟩ := hc
    refine ⟨rfl, fun x hx => ?_⟩
    rw [List.mem_singleton] at hx
    subst hx
    exact ⟨rfl, (MapKept.bytes_beq n n).2 rfl⟩
  | .slice e, cs, hc => by
    simp only [CellsT] at hc
    rcases hc with rfl | rfl | ⟨b, o, n, c, bs, rfl, _⟩ <;> simp [Ty.size, oneCell, sameCell]
  | .struct fs, cs, hc => by
    simp only [CellsT] at hc
    have := structT_plain fs hc
    simpa [Ty.size] using this
theorem structT_plain {h : H} : ∀ (ys : List Ty) {cs : List Value}, StructT h ys cs → cs.length = Ty.sizes ys ∧ ∀ x ∈ cs, oneCell x = true ∧ sameCell x x = true
  | [], cs, hc => by
    simp only [StructT] at hc
    subst hc
    simp [Ty.sizes]
  | y :: ys, cs, hc => by
    simp only [StructT] at hc
    obtain ⟨h1, h2, h3⟩ := hc
    obtain ⟨a1, a2⟩ := cellsT_plain y h2
    obtain ⟨b1, b2⟩ := structT_plain ys h3
    refine ⟨by simp [Ty.sizes] at b1 ⊢; omega, fun x hx => ?_⟩
    rw [← List.take_append_drop y.size cs] at hx
    rcases List.mem_append.1 hx with hx | hx
    · exact a2 x hx
    · exact b2 x hx
end

theorem sameL_refl : ∀ (l : List Value), (∀ x ∈ l, sameCell x x = true) → sameL l l = true
  | [], _ => rfl
  | x :: l, h => by
    unfold sameL
    rw [h x (by simp), sameL_refl l fun y hy => h y (by simp [hy])]
    rfl

/-- An argument. -/
theorem open_arg {y : Ty} {t : TypeId} (hy : tyOk P y t = true) {v : Value} {d : DataW HT} {p : List MemPlace} (h : DataW.Trod enc P W base (fun _ => true) held t v d p) : CellsT (absH W) y (v.cells.toList.map (absV W.heap.size)) := by
  obtain ⟨fuel, h⟩ := h
  exact (open_cells y t hy h).1

end

end Go.Ev

/- Ev21: lists in memory: what a slice reads as, by the contents of its row alone; lists that are being built by append. -/
set_option linter.unusedSimpArgs false
set_option linter.unusedVariables false
namespace Go.Ev

theorem ba_self (b : ByteArray) : (b == b) = true := (MapKept.bytes_beq b b).2 rfl
theorem ba_nself (b : ByteArray) : (b != b) = false := by
  show (!(b == b)) = false
  rw [ba_self]; rfl

/-- The contents of a row. -/
def cel (h : H) (b : Nat) : Option (List Value) := match hget h b with
  | some (.cells cs _ _ _) => some cs
  | _ => none

theorem cel_of {h : H} {b : Nat} {cs : List Value} {es : Nat} {lv : Bool} {an : List Nat} (e : hget h b = some (.cells cs es lv an)) : cel h b = some cs := by
  unfold cel; rw [e]
theorem cel_inv {h : H} {b : Nat} {cs : List Value} (e : cel h b = some cs) : ∃ es lv an, hget h b = some (.cells cs es lv an) := by
  unfold cel at e
  split at e
  · rename_i h'
    cases e
    exact ⟨_, _, _, h'⟩
  · cases e
theorem cel_lt {h : H} {b : Nat} {cs : List Value} (e : cel h b = some cs) : b < h.size := by
  obtain ⟨_, _, _, e⟩ := cel_inv e
  exact lt_of_get e
theorem cel_congr {h h' : H} {b : Nat} (e : hget h' b = hget h b) : cel h' b = cel h b := by unfold cel; rw [e]

/-- The contents are as they were, but for some blocks'. -/
def KeptC (h h' : H) (L : List Nat) : Prop := h.size ≤ h'.size ∧ ∀ b, b < h.size → b ∉ L → cel h' b = cel h b
theorem KeptC.refl (h : H) (L : List Nat) : KeptC h h L := ⟨Nat.le_refl _, fun _ _ _ => rfl⟩
theorem KeptC.trans {h h1 h2 : H} {L : List Nat} (a : KeptC h h1 L) (b : KeptC h1 h2 L) : KeptC h h2 L :=
  ⟨Nat.le_trans a.1 b.1, fun x hx hs => (b.2 x (Nat.lt_of_lt_of_le hx a.1) hs).trans (a.2 x hx hs)⟩
theorem KeptC.weak {h h' : H} {L M : List Nat} (a : KeptC h h' L) (hs : ∀ b ∈ L, b ∈ M) : KeptC h h' M := ⟨a.1, fun b hb h => a.2 b hb fun q => h (hs b q)⟩
theorem Kept.c {h h' : H} {L : List Nat} (a : Kept h h' L) : KeptC h h' L := ⟨a.1, fun b hb hn => cel_congr (a.2 b hb hn)⟩

section
variable {α : Type}

/-- A slice reads as these: ok tells where its row may lie, w how many cells an element has, R what they say. -/
def SlR (ok : Nat → Prop) (w : Nat) (R : H → List Value → α → Prop) (h : H) (v : Value) (xs : List α) : Prop :=
  ((v = .slice none 0 0 ∨ v = .slice (some ⟨0, 0, some 0⟩) 0 0) ∧ xs = []) ∨
  ∃ b o c cs, v = .slice (some ⟨b, o, none⟩) xs.length c ∧ xs.length ≤ c ∧ ok b ∧ cel h b = some cs ∧ ∀ (i : Nat) (x : α), xs[i]? = some x → o + i * w + w ≤ cs.length ∧ R h ((cs.drop (o + i * w)).take w) x

variable {ok ok' : Nat → Prop} {w : Nat} {R R' : H → List Value → α → Prop} {h h' : H} {v : Value} {xs : List α} {L : List Nat}

theorem SlR.len (s : SlR ok w R h v xs) : lenV v = some (.int .i64 xs.length) := by
  rcases s with ⟨rfl | rfl, rfl⟩ | ⟨b, o, c, cs, rfl, _⟩ <;> simp [lenV]

theorem SlR.one (s : SlR ok w R h v xs) : oneCell v = true := by
  rcases s with ⟨rfl | rfl, rfl⟩ | ⟨b, o, c, cs, rfl, _⟩ <;> rfl
theorem SlR.vc (s : SlR ok w R h v xs) : vcells v = some [v] := by
  rcases s with ⟨rfl | rfl, rfl⟩ | ⟨b, o, c, cs, rfl, _⟩ <;> rfl
theorem SlR.same (s : SlR ok w R h v xs) : sameCell v v = true := by
  rcases s with ⟨rfl | rfl, rfl⟩ | ⟨b, o, c, cs, rfl, _⟩ <;> simp [sameCell]
theorem SlR.ne_text (s : SlR ok w R h v xs) : isText v = false := by
  rcases s with ⟨rfl | rfl, rfl⟩ | ⟨b, o, c, cs, rfl, _⟩ <;> rfl

theorem SlR.imp (s : SlR ok w R h v xs) (h1 : ∀ b, b < h.size → ok b → ok' b) (h2 : ∀ cs, ∀ x ∈ xs, R h cs x → R' h' cs x) (h3 : ∀ b cs, ok b → cel h b = some cs → cel h' b = some cs) : SlR ok' w R' h' v xs := by
  rcases s with s | ⟨b, o, c, cs, e, hc, hk, hb, hi⟩
  · exact .inl s
  · refine .inr ⟨b, o, c, cs, e, hc, h1 b (cel_lt hb) hk, h3 b cs hk hb, fun i x hx => ⟨(hi i x hx).1, h2 _ _ (List.mem_of_getElem? hx) (hi i x hx).2⟩⟩

theorem SlR.kc (s : SlR ok w R h v xs) (k : KeptC h h' L) (hL : ∀ b ∈ L, ¬ ok b) (hR : ∀ cs, ∀ x ∈ xs, R h cs x → R h' cs x) : SlR ok w R h' v xs :=
  s.imp (fun _ _ q => q) hR fun b cs hk hb => (k.2 b (cel_lt hb) (fun q => hL b q hk)).trans hb

theorem SlR.row (s : SlR ok w R h v xs) (hne : 0 < xs.length) : ∃ b o c cs, v = .slice (some ⟨b, o, none⟩) xs.length c ∧ xs.length ≤ c ∧ ok b ∧ cel h b = some cs ∧ ∀ (i : Nat) (x : α), xs[i]? = some x → o + i * w + w ≤ cs.length ∧ R h ((cs.drop (o + i * w)).take w) x := by
  rcases s with ⟨_, rfl⟩ | s
  · simp at hne
  · exact s

/-- What an element reads as, where it is read. -/
theorem SlR.at' (s : SlR ok w R h v xs) {i : Nat} {x : α} (hx : xs[i]? = some x) : ∃ b o c cs es lv an, v = .slice (some ⟨b, o, none⟩) xs.length c ∧ ok b ∧ hget h b = some (.cells cs es lv an) ∧ o + i * w + w ≤ cs.length ∧ R h ((cs.drop (o + i * w)).take w) x := by
  have hi := (List.getElem?_eq_some_iff.1 hx).1
  obtain ⟨b, o, c, cs, e, _, hk, hb, hr⟩ := s.row (by omega)
  obtain ⟨es, lv, an, hg⟩ := cel_inv hb
  exact ⟨b, o, c, cs, es, lv, an, e, hk, hg, (hr i x hx).1, (hr i x hx).2⟩

theorem rowKept (h : H) (cs : List Value) (es : Nat) (an : List Nat) : Kept h (newRow h cs es an) [] := ⟨by simp, fun c hc _ => by simp [hc]⟩

/-- A list that is being built: nil, or a row of its own, full to its end. -/
def Bld (ok : Nat → Prop) (w : Nat) (R : H → List Value → α → Prop) (h : H) (v : Value) (xs : List α) : Prop :=
  (v = .slice none 0 0 ∧ xs = []) ∨
  ∃ b cs an, v = .slice (some ⟨b, 0, none⟩) xs.length xs.length ∧ ok b ∧ hget h b = some (.cells cs w true an) ∧ cs.length = xs.length * w ∧ ∀ (i : Nat) (x : α), xs[i]? = some x → R h ((cs.drop (i * w)).take w) x

theorem Bld.sl (s : Bld ok w R h v xs) : SlR ok w R h v xs := by
  rcases s with ⟨e, e'⟩ | ⟨b, cs, an, e, hk, hb, hl, hi⟩
  · exact .inl ⟨.inl e, e'⟩
  · refine .inr ⟨b, 0, xs.length, cs, e, Nat.le_refl _, hk, cel_of hb, fun i x hx => ⟨?_, ?_⟩⟩
    · have hi' := (List.getElem?_eq_some_iff.1 hx).1
      have : (i + 1) * w ≤ xs.length * w := Nat.mul_le_mul_right _ hi'
      rw [Nat.add_mul] at this
      omega
    · rw [Nat.zero_add]; exact hi i x hx

theorem Bld.nil (ok : Nat → Prop) (w : Nat) (R : H → List Value → α → Prop) (h : H) : Bld ok w R h (.slice none 0 0) [] := .inl ⟨rfl, rfl⟩

theorem Bld.ne (s : Bld ok w R h v xs) {b : Nat} (hb : ¬ ok b) : ∀ o n c, v ≠ .slice (some ⟨b, o, none⟩) n c := by
  rintro o n c e
  rcases s with ⟨rfl, _⟩ | ⟨b', cs, an, e', hk, _⟩
  · cases e
  · rw [e'] at e
    injection e with e1
    injection e1 with e1
    injection e1 with e1
    exact hb (e1 ▸ hk)

theorem Bld.kept (s : Bld ok w R h v xs) (k : Kept h h' L) (hL : ∀ b ∈ L, ¬ ok b) (hR : ∀ cs, ∀ x ∈ xs, R h cs x → R h' cs x) : Bld ok w R h' v xs := by
  rcases s with s | ⟨b, cs, an, e, hk, hb, hl, hi⟩
  · exact .inl s
  · exact .inr ⟨b, cs, an, e, hk, (k.get (lt_of_get hb) (fun q => hL b q hk)).trans hb, hl, fun i x hx => hR _ _ (List.mem_of_getElem? hx) (hi i x hx)⟩

theorem Bld.frame (s : Bld ok w R h v xs) (k : Kept h h' []) (hR : ∀ cs x, R h cs x → R h' cs x) : Bld ok w R h' v xs :=
  s.kept k (by simp) fun cs x _ q => hR cs x q

theorem drop_take_append (cs new : List Value) (n w i : Nat) (hl : cs.length = n * w) (hi : i < n) : ((cs ++ new).drop (i * w)).take w = (cs.drop (i * w)).take w := by
  have h1 : (i + 1) * w ≤ n * w := Nat.mul_le_mul_right _ hi
  rw [Nat.add_mul] at h1
  rw [List.drop_append, List.take_append]
  have h2 : (List.drop (i * w) cs).length = n * w - i * w := by rw [List.length_drop, hl]
  have h3 : w - (List.drop (i * w) cs).length = 0 := by omega
  rw [h3, List.take_zero, List.append_nil]

theorem take_at_end (cs new : List Value) (n w : Nat) (hl : cs.length = n * w) (hn : new.length = w) : ((cs ++ new).drop (n * w)).take w = new := by
  rw [← hl, List.drop_left]
  exact List.take_of_length_le (by omega)

theorem take_in_end (cs new : List Value) (n w j : Nat) (hl : cs.length = n * w) : ((cs ++ new).drop ((n + j) * w)).take w = (new.drop (j * w)).take w := by
  rw [Nat.add_mul, ← hl, ← List.drop_drop, List.drop_left]

/-- Elements put behind. -/
theorem Bld.appN {bytes : Nat} (s : Bld ok w R h v xs) {new : List Value} {ys : List α} (hn : new.length = ys.length * w) (hb : (xs.length + ys.length) * bytes ≤ 2 ^ 47)
    (hok : ok h.size) (hR : ∀ h', KeptC h h' [] → ∀ cs, ∀ y ∈ xs, R h cs y → R h' cs y) (hx : ∀ h', KeptC h h' [] → ∀ (i : Nat) (y : α), ys[i]? = some y → R h' ((new.drop (i * w)).take w) y) :
    Ans (appendTo h w bytes v ys.length new) fun v' h' => Bld ok w R h' v' (xs ++ ys) ∧ KeptC h h' [] ∧ h'.size ≤ h.size + 1 ∧ (∀ b, b < h.size → (∀ o n c, v ≠ .slice (some ⟨b, o, none⟩) n c) → hget h' b = hget h b) ∧ (v' = v ∨ ∃ n c, v' = .slice (some ⟨h.size, 0, none⟩) n c) := by
  by_cases hz : ys.length = 0
  · have hys : ys = [] := List.length_eq_zero_iff.1 hz
    subst hys
    have e : appendTo h w bytes v 0 new = some (v, h) := by
      rcases s with ⟨rfl, rfl⟩ | ⟨b, cs, an, rfl, _⟩ <;> simp [appendTo]
    exact ⟨v, h, e, by simpa using s, KeptC.refl _ _, by omega, fun _ _ _ => rfl, .inl rfl⟩
  rcases s with ⟨rfl, rfl⟩ | ⟨b, cs, an, rfl, hk, hg, hl, hi⟩
  · have kc : KeptC h (newRow h new w []) [] := ⟨by simp, fun c hc _ => cel_congr (by simp [hc])⟩
    have hb' : ys.length * bytes ≤ 140737488355328 := by simpa using hb
    have hz' : ¬ ys = [] := fun e => hz (by rw [e]; rfl)
    refine ⟨.slice (some ⟨h.size, 0, none⟩) ys.length ys.length, newRow h new w [], ?_, ?_, kc, by simp, fun c hc _ => by simp [hc], .inr ⟨_, _, rfl⟩⟩
    · simp [appendTo, hb', hz']
    · exact .inr ⟨h.size, new, [], rfl, hok, by simp, by simpa using hn, fun i y hy => hx _ kc i y (by simpa using hy)⟩
  · have hbs := lt_of_get hg
    have kc : KeptC h (newRow (h.setIfInBounds b (.cells cs w false an)) (cs ++ new) w (b :: an)) [] := by
      refine ⟨by simp, fun c hc _ => ?_⟩
      by_cases e : b = c
      · subst e
        rw [cel_of hg]
        exact cel_of (es := w) (lv := false) (an := an) (by simp [hbs])
      · exact cel_congr (by simp [hc, e])
    have e2 : cs.take (xs.length * w) = cs := List.take_of_length_le (by omega)
    refine ⟨.slice (some ⟨h.size, 0, none⟩) (xs.length + ys.length) (xs.length + ys.length), newRow (h.setIfInBounds b (.cells cs w false an)) (cs ++ new) w (b :: an), ?_, ?_, kc, by simp, ?_, .inr ⟨_, _, rfl⟩⟩
    · have hb' : (xs.length + ys.length) * bytes ≤ 140737488355328 := by simpa using hb
      have hz' : ¬ ys = [] := fun e => hz (by rw [e]; rfl)
      have hnl : ¬ xs.length + ys.length ≤ xs.length := by omega
      simp [appendTo, hb', hg, hl, e2, hnl, hz']
    · refine .inr ⟨h.size, cs ++ new, b :: an, by simp, hok, by simp, by simp [hl, hn, Nat.add_mul], ?_⟩
      intro i y hy
      by_cases hi' : i < xs.length
      · rw [List.getElem?_append_left hi'] at hy
        rw [drop_take_append cs new xs.length w i hl hi']
        exact hR _ kc _ _ (List.mem_of_getElem? hy) (hi i y hy)
      · rw [List.getElem?_append_right (by omega)] at hy
        have := take_in_end cs new xs.length w (i - xs.length) hl
        rw [show xs.length + (i - xs.length) = i by omega] at this
        rw [this]
        exact hx _ kc _ _ hy
    · intro c hc hn'
      have : ¬ b = c := fun e => hn' 0 _ _ (by rw [e])
      simp [hc, this]

/-- One element put behind. -/
theorem Bld.app {bytes : Nat} (s : Bld ok w R h v xs) {new : List Value} {x : α} (hn : new.length = w) (hb : (xs.length + 1) * bytes ≤ 2 ^ 47)
    (hok : ok h.size) (hR : ∀ h', KeptC h h' [] → ∀ cs, ∀ y ∈ xs, R h cs y → R h' cs y) (hx : ∀ h', KeptC h h' [] → R h' new x) :
    Ans (appendTo h w bytes v 1 new) fun v' h' => Bld ok w R h' v' (xs ++ [x]) ∧ KeptC h h' [] ∧ h'.size ≤ h.size + 1 ∧ (∀ b, b < h.size → (∀ o n c, v ≠ .slice (some ⟨b, o, none⟩) n c) → hget h' b = hget h b) ∧ (v' = v ∨ ∃ n c, v' = .slice (some ⟨h.size, 0, none⟩) n c) := by
  refine s.appN (ys := [x]) (by simpa using hn) hb hok hR fun h' k i y hy => ?_
  cases i with
  | succ i => simp at hy
  | zero =>
    simp at hy
    subst hy
    rw [Nat.zero_mul, List.drop_zero, List.take_of_length_le (by omega)]
    exact hx h' k

/-- A slice of what nobody changes, handed in. -/
theorem SlR.src (s : SlR ok w R h v xs) (hw : 0 < w) (hcs : ∀ cs, ∀ x ∈ xs, R h cs x → cs.length = w) : ∃ new, srcOf h w v = some (xs.length, new) ∧ new.length = xs.length * w ∧ ∀ (i : Nat) (x : α), xs[i]? = some x → R h ((new.drop (i * w)).take w) x := by
  rcases s with ⟨rfl | rfl, rfl⟩ | ⟨b, o, c, cs, rfl, hc, hk, hb, hi⟩
  · exact ⟨[], by simp [srcOf], by simp, by simp⟩
  · exact ⟨[], by simp [srcOf], by simp, by simp⟩
  · obtain ⟨es', lv, an, hg⟩ := cel_inv hb
    by_cases hz : xs.length = 0
    · have hx : xs = [] := List.length_eq_zero_iff.1 hz
      subst hx
      exact ⟨[], by simp [srcOf], by simp, by simp⟩
    · have hlast := hi (xs.length - 1) xs[xs.length - 1] (List.getElem?_eq_getElem (by omega))
      have hle : o + xs.length * w ≤ cs.length := by
        have h1 := hlast.1
        have : (xs.length - 1) * w + w = xs.length * w := by
          rw [← Nat.succ_mul]; congr 1; omega
        omega
      refine ⟨(cs.drop o).take (xs.length * w), ?_, ?_, ?_⟩
      · simp [srcOf, hz, rd, hg, hle]
      · rw [List.length_take, List.length_drop]; omega
      · intro i x hx
        have hi' := (List.getElem?_eq_some_iff.1 hx).1
        have h1 : (i + 1) * w ≤ xs.length * w := Nat.mul_le_mul_right _ hi'
        rw [Nat.add_mul] at h1
        have := (hi i x hx).2
        rw [List.drop_take, List.take_take, List.drop_drop, Nat.min_eq_left (by omega)]
        exact this

end

end Go.Ev

/- Ev22: parts of slices. -/
set_option linter.unusedSimpArgs false
set_option linter.unusedVariables false
namespace Go.Ev

/-- A part of a slice. -/
def slcV (size : Nat) (v : Value) (lo hi : Option Value) : Option Value := match v with
    | .slice none 0 0 => match optInt hi 0 with
      | some q => match optInt lo 0 with
        | some p => if p ≤ q ∧ q ≤ 0 then some (.slice none 0 0) else none
        | none => none
      | none => none
    | .slice (some ⟨b, o, none⟩) n c => match optInt hi n with
      | some q => match optInt lo 0 with
        | some p => if p ≤ q ∧ q ≤ c then some (.slice (some ⟨b, o + p * size, none⟩) (q - p) (c - p)) else none
        | none => none
      | none => none
    | _ => none

@[simp ↓ high] theorem evOp_slice {size : Nat} {x : Operand} {lo hi : Option Operand} {s : Env} {h : H} : evOp (.slice size x lo hi) s h = (slcV size (aeval s x) (lo.map (aeval s)) (hi.map (aeval s))).map fun v => (v, h) := by
  show (match aeval s x with
    | .slice none 0 0 => match optInt (hi.map (aeval s)) 0 with
      | some q => match optInt (lo.map (aeval s)) 0 with
        | some p => if p ≤ q ∧ q ≤ 0 then some (Value.slice none 0 0, h) else none
        | none => none
      | none => none
    | .slice (some ⟨b, o, none⟩) n c => match optInt (hi.map (aeval s)) n with
      | some q => match optInt (lo.map (aeval s)) 0 with
        | some p => if p ≤ q ∧ q ≤ c then some (.slice (some ⟨b, o + p * size, none⟩) (q - p) (c - p), h) else none
        | none => none
      | none => none
    | _ => none) = _
  unfold slcV
  split
  · split
    · split
      · split <;> rfl
      · rfl
    · rfl
  · split
    · split
      · split <;> rfl
      · rfl
    · rfl
  · rfl

section
variable {α : Type} {ok : Nat → Prop} {w : Nat} {R : H → List Value → α → Prop} {h : H} {v : Value} {xs : List α}

/-- The first ones. -/
theorem Bld.take (s : Bld ok w R h v xs) {n : Nat} (hn : n ≤ xs.length) : ∃ v', slcV w v none (some (.int .i64 n)) = some v' ∧ SlR ok w R h v' (xs.take n) := by
  rcases s with ⟨rfl, rfl⟩ | ⟨b, cs, an, rfl, hk, hb, hl, hi⟩
  · simp at hn; subst hn
    exact ⟨.slice none 0 0, by simp [slcV, optInt], .inl ⟨.inl rfl, rfl⟩⟩
  · refine ⟨.slice (some ⟨b, 0, none⟩) n xs.length, by simp [slcV, optInt, hn], .inr ⟨b, 0, xs.length, cs, ?_, by simp; omega, hk, cel_of hb, ?_⟩⟩
    · rw [List.length_take, Nat.min_eq_left hn]
    · intro i x hx
      have hi' := (List.getElem?_eq_some_iff.1 hx).1
      simp at hi'
      rw [List.getElem?_take, if_pos (by omega)] at hx
      refine ⟨?_, ?_⟩
      · have : (i + 1) * w ≤ xs.length * w := Nat.mul_le_mul_right _ (by omega)
        rw [Nat.add_mul] at this
        omega
      · rw [Nat.zero_add]; exact hi i x hx

/-- All but the first ones. -/
theorem Bld.drop (s : Bld ok w R h v xs) {n : Nat} (hn : n ≤ xs.length) : ∃ v', slcV w v (some (.int .i64 n)) none = some v' ∧ SlR ok w R h v' (xs.drop n) := by
  rcases s with ⟨rfl, rfl⟩ | ⟨b, cs, an, rfl, hk, hb, hl, hi⟩
  · simp at hn; subst hn
    exact ⟨.slice none 0 0, by simp [slcV, optInt], .inl ⟨.inl rfl, rfl⟩⟩
  · refine ⟨.slice (some ⟨b, 0 + n * w, none⟩) (xs.length - n) (xs.length - n), by simp [slcV, optInt, hn], .inr ⟨b, 0 + n * w, xs.length - n, cs, ?_, by simp, hk, cel_of hb, ?_⟩⟩
    · rw [List.length_drop]
    · intro i x hx
      rw [List.getElem?_drop] at hx
      have hi' := (List.getElem?_eq_some_iff.1 hx).1
      refine ⟨?_, ?_⟩
      · have : (n + i + 1) * w ≤ xs.length * w := Nat.mul_le_mul_right _ (by omega)
        rw [Nat.add_mul, Nat.add_mul] at this
        omega
      · have := hi (n + i) x hx
        rw [Nat.add_mul] at this
        rw [Nat.zero_add]; exact this
end

end Go.Ev

/- The document's line: what it is in memory; find, Look. -/
set_option linter.unusedSimpArgs false
set_option linter.unusedVariables false
namespace Go.Proofs.Ytmenfnapbggglaa
open Go.Ev

theorem _root_.Go.Ev.Keeps.kept {h h' : H} {S : Nat → Prop} (k : Keeps h h' S) {L : List Nat} (hL : ∀ b, S b → b ∈ L) : Kept h h' L :=
  ⟨k.1, fun b hb hn => k.2 b hb (fun q => hn (hL b q))⟩
theorem _root_.Go.Ev.Kept.keeps {h h' : H} {L : List Nat} (k : Kept h h' L) {S : Nat → Prop} (hL : ∀ b ∈ L, S b) : Keeps h h' S :=
  ⟨k.1, fun b hb hn => k.get hb (fun q => hn (hL b q))⟩

def MsgC (h : H) (cs : List Value) (m : Msg) : Prop := cs = m.cells
def PclC (h : H) (cs : List Value) (p : Int × Parcel) : Prop := cs = [.int .i64 p.1, .int .i64 p.2.1.fr, .int .i64 p.2.1.to, .string p.2.1.b, .bool p.2.2]

def RefL (ok : Nat → Prop) (h : H) (cs : List Value) (fl : Flight) (last : Int) (nn : Bool) : Prop := ∃ v, cs = [v, .int .i64 last, .bool nn] ∧ SlR ok 5 PclC h v fl

section
variable {ok ok' : Nat → Prop} {h h' : H} {v : Value} {L : List Nat}
theorem SlM.imp {xs : List Msg} (s : SlR ok 3 MsgC h v xs) (h1 : ∀ b, b < h.size → ok b → ok' b) (h3 : ∀ b cs, ok b → cel h b = some cs → cel h' b = some cs) : SlR ok' 3 MsgC h' v xs :=
  s.imp h1 (fun _ _ _ q => q) h3
theorem SlF.imp {xs : Flight} (s : SlR ok 5 PclC h v xs) (h1 : ∀ b, b < h.size → ok b → ok' b) (h3 : ∀ b cs, ok b → cel h b = some cs → cel h' b = some cs) : SlR ok' 5 PclC h' v xs :=
  s.imp h1 (fun _ _ _ q => q) h3
theorem RefL.imp {cs : List Value} {fl : Flight} {last : Int} {nn : Bool} (s : RefL ok h cs fl last nn) (h1 : ∀ b, b < h.size → ok b → ok' b) (h3 : ∀ b cs, ok b → cel h b = some cs → cel h' b = some cs) : RefL ok' h' cs fl last nn := by
  obtain ⟨v, e, s⟩ := s
  exact ⟨v, e, SlF.imp s h1 h3⟩
theorem RefL.now {cs : List Value} {fl : Flight} {last : Int} {nn : Bool} (s : RefL ok h cs fl last nn) : RefL (fun c => ok c ∧ c < h.size) h cs fl last nn :=
  s.imp (fun c hc q => ⟨q, hc⟩) (fun _ _ _ e => e)
theorem keep_of (k : KeptC h h' L) (hL : ∀ b ∈ L, ¬ ok b) : ∀ b cs, ok b → cel h b = some cs → cel h' b = some cs :=
  fun b cs hk hb => (k.2 b (cel_lt hb) (fun q => hL b q hk)).trans hb
end

theorem pc_at {cs : List Value} {n : Nat} {p : Int × Parcel} {h : H} (q : PclC h ((cs.drop n).take 5) p) (hle : n + 5 ≤ cs.length) : (cs.drop n).take 5 = [.int .i64 p.1, .int .i64 p.2.1.fr, .int .i64 p.2.1.to, .string p.2.1.b, .bool p.2.2] ∧ (cs.drop n).take 1 = [.int .i64 p.1] ∧ (cs.drop (n + 1)).take 3 = [.int .i64 p.2.1.fr, .int .i64 p.2.1.to, .string p.2.1.b] ∧ (cs.drop (n + 4)).take 1 = [.bool p.2.2] := by
  have q : (cs.drop n).take 5 = [.int .i64 p.1, .int .i64 p.2.1.fr, .int .i64 p.2.1.to, .string p.2.1.b, .bool p.2.2] := q
  refine ⟨q, ?_, ?_, ?_⟩
  · have := congrArg (List.take 1) q
    rw [List.take_take] at this
    simpa using this
  · have := congrArg (fun z => (z.drop 1).take 3) q
    simp only [List.drop_take, List.drop_drop, List.take_take] at this
    simpa using this
  · have := congrArg (List.drop 4) q
    rw [List.drop_take, List.drop_drop] at this
    simpa using this

theorem lk_hit {n : Int} : ∀ {fl : Flight} {i k : Nat} {p : Parcel}, fl[i]? = some (n, p) → (∀ (j : Nat) q, j < i → fl[j]? = some q → q.1 ≠ n) → lk n fl k = some (k + i, p)
  | [], i, k, p, h, _ => by simp at h
  | a :: r, 0, k, p, h, _ => by
    simp at h
    subst h
    simp [lk]
  | a :: r, i + 1, k, p, h, hj => by
    have ha : n ≠ a.1 := fun e => hj 0 a (by omega) rfl e.symm
    unfold lk
    rw [if_neg ha, lk_hit (fl := r) (i := i) (k := k + 1) (p := p) (by simpa using h) (fun j q hji hq => hj (j + 1) q (by omega) (by simpa using hq))]
    congr 2
    omega

def fdM (n : Int) (fl : Flight) : Int := match lk n fl 0 with
  | some (i, _) => i
  | none => -1

theorem find_spec {F : Nat} (hF : 1000 ≤ F) {ok : Nat → Prop} {h : H} {cs : List Value} {fl : Flight} {last : Int} {nn : Bool} (s : RefL ok h cs fl last nn) (hl : fl.length ≤ 256) (n : Int) :
    Ans (cf F 48 [.agg ⟨cs⟩, .int .i64 n] h) fun u h' => u = .int .i64 (fdM n fl) ∧ Kept h h' [] := by
  generalize hQ : (fun (u : Value) (h' : H) => u = Value.int .i64 (fdM n fl) ∧ Kept h h' []) = Q
  obtain ⟨F, rfl⟩ : ∃ G, F = G + 1 := ⟨F - 1, by omega⟩
  obtain ⟨v, rfl, s⟩ := s
  have ov := s.one
  simp only [oneCell] at ov
  have hln := s.len
  rw [cf_step (a := a48) rfl rfl (by simp [a48])]
  simp (disch := first | omega | (simp only [newRow_size, Array.size_setIfInBounds, Array.size_push]; done) | (simp only [newRow_size, Array.size_setIfInBounds, Array.size_push]; omega)) [a48, r48_0, ov, r48_1]
  have kR := rowKept h [v, .int .i64 last, .bool nn] 0 []
  have hR : hget (Ev.newRow h [v, .int .i64 last, .bool nn] 0 []) h.size = some (.cells [v, .int .i64 last, .bool nn] 0 true []) := by simp
  generalize Ev.newRow h [v, .int .i64 last, .bool nn] 0 [] = g at kR hR ⊢
  have hRs := lt_of_get hR
  have sg := SlF.imp s (ok' := ok) (fun _ _ q => q) (keep_of kR.c (by simp))
  refine loop_rule (fun m e g' => ∃ (i : Nat), m = fl.length - i ∧ i ≤ fl.length ∧ e = [(1, .int .i64 n), (2, .pointer (some ⟨h.size, 0, none⟩)), (5, .int .i64 i)] ∧ g' = g ∧ (∀ (j : Nat) q, j < i → fl[j]? = some q → q.1 ≠ n)) ?_ _ fl.length _ _ (by omega) ⟨0, by omega, by omega, rfl, rfl, by intro j q hj; omega⟩
  rintro m e g' again ⟨i, rfl, hi, rfl, rfl, hno⟩ ih
  have hw : IntKind.i64.wrap ((i : Int) + 1) = ((i + 1 : Nat) : Int) := by rw [wrap_id (by omega) (by omega)]; rfl
  by_cases hlt : i < fl.length
  · obtain ⟨p, hp⟩ : ∃ p, fl[i]? = some p := ⟨_, List.getElem?_eq_getElem hlt⟩
    obtain ⟨b, o, c, csx, es, lv, an, rfl, hk, hg, hle, hpc⟩ := sg.at' hp
    obtain ⟨e5, e1, e3, e4⟩ := pc_at hpc hle
    have hgs := lt_of_get hg
    by_cases hpn : p.1 = n
    · have hm : fdM n fl = i := by unfold fdM; rw [lk_hit (p := p.2) (by rw [hp, ← hpn]) hno]; simp
      simp (disch := first | omega | (simp only [newRow_size, Array.size_setIfInBounds, Array.size_push]; done) | (simp only [newRow_size, Array.size_setIfInBounds, Array.size_push]; omega)) [l48_6, r48_2, hR, hln, eqT, eqF, neT, neF, ltT, ltF, leT, leF, nltT, nltF, nleT, nleF, nneT, nneF, List.getElem?_cons_zero, List.getElem?_cons_succ, r48_3, hg, e1, hpn, r48_4]
      subst hQ
      exact Ans.of ⟨by rw [hm], kR⟩
    · simp (disch := first | omega | (simp only [newRow_size, Array.size_setIfInBounds, Array.size_push]; done) | (simp only [newRow_size, Array.size_setIfInBounds, Array.size_push]; omega)) [l48_6, r48_2, hR, hln, eqT, eqF, neT, neF, ltT, ltF, leT, leF, nltT, nltF, nleT, nleF, nneT, nneF, List.getElem?_cons_zero, List.getElem?_cons_succ, r48_3, hg, e1, hpn, r48_5, hw]
      refine ih (fl.length - (i + 1)) _ _ (by omega) ⟨i + 1, rfl, by omega, rfl, rfl, ?_⟩
      intro j q hj hq
      by_cases e : j = i
      · subst e
        rw [hp] at hq
        cases hq
        exact hpn
      · exact hno j q (by omega) hq
  · have hm : fdM n fl = -1 := by
      unfold fdM
      rw [lk_none 0 (fun p hp => by
        obtain ⟨j, hj⟩ := List.getElem?_of_mem hp
        exact hno j p (by have := (List.getElem?_eq_some_iff.1 hj).1; omega) hj)]
    simp (disch := first | omega | (simp only [newRow_size, Array.size_setIfInBounds, Array.size_push]; done) | (simp only [newRow_size, Array.size_setIfInBounds, Array.size_push]; omega)) [l48_6, r48_2, hR, hln, eqT, eqF, neT, neF, ltT, ltF, leT, leF, nltT, nltF, nleT, nleF, nneT, nneF, List.getElem?_cons_zero, List.getElem?_cons_succ, r48_7]
    subst hQ
    exact Ans.of ⟨by rw [hm], kR⟩

theorem fd_some {n : Int} {fl : Flight} {i : Nat} {p : Parcel} (e : lk n fl 0 = some (i, p)) : fdM n fl = i := by unfold fdM; rw [e]
theorem fd_none {n : Int} {fl : Flight} (e : lk n fl 0 = none) : fdM n fl = -1 := by unfold fdM; rw [e]

theorem lk_get {n : Int} : ∀ {fl : Flight} {i k : Nat} {p : Parcel}, lk n fl k = some (i, p) → k ≤ i ∧ fl[i - k]? = some (n, p)
  | [], i, k, p, h => by simp [lk] at h
  | a :: r, i, k, p, h => by
    unfold lk at h
    split at h
    · rename_i e
      cases h
      refine ⟨Nat.le_refl _, ?_⟩
      rw [Nat.sub_self]
      simp [e]
    · obtain ⟨h1, h2⟩ := lk_get h
      refine ⟨by omega, ?_⟩
      rw [show i - k = (i - (k + 1)) + 1 by omega]
      simpa using h2

/-- Look's answer. -/
def lookM (n : Int) (fl : Flight) : Msg × Int := match lk n fl 0 with
  | some (_, p) => (p.1, 0)
  | none => (Msg.zero, 160)

theorem refLook_spec {F : Nat} (hF : 1001 ≤ F) {ok : Nat → Prop} {h : H} {cs : List Value} {fl : Flight} {last : Int} {nn : Bool} (s : RefL ok h cs fl last nn) (hl : fl.length ≤ 256) (n : Int) :
    Ans (cf F 40 [.agg ⟨cs⟩, .int .i64 n] h) fun u h' => u = .tuple ⟨[(lookM n fl).1.val, .int .i64 (lookM n fl).2]⟩ ∧ Kept h h' [] := by
  generalize hQ : (fun (u : Value) (h' : H) => u = Value.tuple ⟨[(lookM n fl).1.val, .int .i64 (lookM n fl).2]⟩ ∧ Kept h h' []) = Q
  obtain ⟨F, rfl⟩ : ∃ G, F = G + 1 := ⟨F - 1, by omega⟩
  obtain ⟨v, hcs, s⟩ := id s
  have ov := s.one
  simp only [oneCell] at ov
  rw [cf_step (a := a40) rfl rfl (by simp [a40]), hcs]
  simp (disch := first | omega | (simp only [newRow_size, Array.size_setIfInBounds, Array.size_push]; done) | (simp only [newRow_size, Array.size_setIfInBounds, Array.size_push]; omega)) [a40, r40_0, ov, r40_1]
  generalize hz : [Value.int .i64 0, .int .i64 0, .string ⟨#[]⟩] = zz
  generalize hc' : [v, .int .i64 last, .bool nn] = cs'
  have kR : Kept h (Ev.newRow (Ev.newRow h cs' 0 []) zz 0 []) [] := (rowKept _ _ _ _).trans (rowKept _ _ _ _)
  have hR : hget (Ev.newRow (Ev.newRow h cs' 0 []) zz 0 []) h.size = some (.cells cs' 0 true []) := by simp (disch := first | omega | (simp only [newRow_size, Array.size_setIfInBounds, Array.size_push]; done) | (simp only [newRow_size, Array.size_setIfInBounds, Array.size_push]; omega)) []
  have hR2 : hget (Ev.newRow (Ev.newRow h cs' 0 []) zz 0 []) (h.size + 1) = some (.cells zz 0 true []) := by simp (disch := first | omega | (simp only [newRow_size, Array.size_setIfInBounds, Array.size_push]; done) | (simp only [newRow_size, Array.size_setIfInBounds, Array.size_push]; omega)) []
  generalize Ev.newRow (Ev.newRow h cs' 0 []) zz 0 [] = g at kR hR hR2 ⊢
  subst hz hc'
  have sg := SlF.imp s (ok' := ok) (fun _ _ q => q) (keep_of kR.c (by simp))
  refine Ans.next (find_spec (F := F) (by omega) ⟨v, rfl, sg⟩ hl n) ?_
  rintro u g2 ⟨rfl, k2⟩
  have y2 := k2.1
  have hRs := lt_of_get hR
  have hR2s := lt_of_get hR2
  have hR' := (k2.get hRs (by simp)).trans hR
  have hR2' := (k2.get hR2s (by simp)).trans hR2
  have sg2 := SlF.imp sg (ok' := ok) (fun _ _ q => q) (keep_of k2.c (by simp))
  have fin : ∀ (c : List Value), Kept h (g2.setIfInBounds (h.size + 1) (.cells c 0 true [])) [] := fun c => ⟨by simp; have := kR.1; omega, fun x hx _ => by rw [set_other (by omega)]; exact (k2.get (by have := kR.1; omega) (by simp)).trans (kR.get hx (by simp))⟩
  cases hlk : lk n fl 0 with
  | none =>
    simp (disch := first | omega | (simp only [newRow_size, Array.size_setIfInBounds, Array.size_push]; done) | (simp only [newRow_size, Array.size_setIfInBounds, Array.size_push]; omega)) [fd_none hlk, r40_2, eqT, eqF, neT, neF, ltT, ltF, leT, leF, nltT, nltF, nleT, nleF, nneT, nneF, List.getElem?_cons_zero, List.getElem?_cons_succ, r40_3, hR2']
    subst hQ
    refine Ans.of ⟨by simp [lookM, hlk, Msg.zero, Msg.val, Msg.cells], fin _⟩
  | some q =>
    obtain ⟨i, p⟩ := q
    obtain ⟨_, hp⟩ := lk_get hlk
    rw [Nat.sub_zero] at hp
    have hil := (List.getElem?_eq_some_iff.1 hp).1
    obtain ⟨b, o, c, csx, es, lv, an, rfl, hk, hg, hle, hpc⟩ := sg2.at' hp
    obtain ⟨e5, e1, e3, e4⟩ := pc_at hpc hle
    have hgs := lt_of_get hg
    simp (disch := first | omega | (simp only [newRow_size, Array.size_setIfInBounds, Array.size_push]; done) | (simp only [newRow_size, Array.size_setIfInBounds, Array.size_push]; omega)) [fd_some hlk, r40_2, eqT, eqF, neT, neF, ltT, ltF, leT, leF, nltT, nltF, nleT, nleF, nneT, nneF, List.getElem?_cons_zero, List.getElem?_cons_succ, r40_4, hR', hg, e3, hR2']
    subst hQ
    refine Ans.of ⟨by simp [lookM, hlk, Msg.val, Msg.cells], fin _⟩

end Go.Proofs.Ytmenfnapbggglaa

/- The document's line: put. -/
set_option linter.unusedSimpArgs false
set_option linter.unusedVariables false
namespace Go.Ev
/-- One element put behind, where what the elements say does not depend on memory. -/
theorem Bld.push {α : Type} {w bytes B : Nat} {R : H → List Value → α → Prop} {h : H} {v : Value} {xs : List α} (hRR : ∀ h h' cs x, R h cs x → R h' cs x) (s : Bld (fun c => B ≤ c) w R h v xs) {new : List Value} {x : α} (hn : new.length = w) (hb : (xs.length + 1) * bytes ≤ 2 ^ 47) (hB : B ≤ h.size) (hx : R h new x) :
    Ans (appendTo h w bytes v 1 new) fun v' h' => Bld (fun c => B ≤ c) w R h' v' (xs ++ [x]) ∧ h.size ≤ h'.size ∧ (∀ b, b < B → hget h' b = hget h b) ∧ KeptC h h' [] := by
  refine (s.app (x := x) hn hb hB (fun h' _ cs y _ q => hRR _ _ _ _ q) (fun h' _ => hRR _ _ _ _ hx)).mono ?_
  rintro v' h' ⟨b3, k3, y3, g3, _⟩
  exact ⟨b3, k3.1, fun b hb => g3 b (by omega) (s.ne (by omega)), k3⟩
end Go.Ev
namespace Go.Proofs.Ytmenfnapbggglaa
open Go.Ev

theorem take_snoc {α : Type} {l : List α} {i : Nat} {x : α} (h : l[i]? = some x) : l.take (i + 1) = l.take i ++ [x] := by
  rw [List.take_add_one, h]; rfl
theorem pcl_any (h h' : H) (cs : List Value) (x : Int × Parcel) (q : PclC h cs x) : PclC h' cs x := q
theorem msg_any (h h' : H) (cs : List Value) (x : Msg) (q : MsgC h cs x) : MsgC h' cs x := q

/-- put. -/
def putR (nn : Bool) (fl : Flight) (last : Int) (p : Parcel) : Flight × Int × Int :=
  if nn = true ∨ 256 ≤ fl.length then (fl, last, -1) else (fl ++ [(last + 1, p)], last + 1, last + 1)

def RPost (ok : Nat → Prop) (h : H) (nn : Bool) (r : Flight × Int × Int) (v : Value) (h' : H) : Prop := ∃ cs, v = .tuple ⟨[.agg ⟨cs⟩, .int .i64 r.2.2]⟩ ∧ RefL ok h' cs r.1 r.2.1 nn ∧ Kept h h' []

set_option maxHeartbeats 1000000 in
theorem refPut_spec {F : Nat} (hF : 1000 ≤ F) {ok : Nat → Prop} {h : H} {cs : List Value} {fl : Flight} {last : Int} {nn : Bool} (s : RefL ok h cs fl last nn) (hok : ∀ c, h.size ≤ c → ok c) (hl : fl.length ≤ 256) (hlast : 0 ≤ last ∧ last ≤ 1000000000) (p : Parcel) :
    Ans (cf F 47 [.agg ⟨cs⟩, .agg ⟨p.1.cells⟩, .bool p.2] h) (RPost ok h nn (putR nn fl last p)) := by
  generalize hQ : RPost ok h nn (putR nn fl last p) = Q
  obtain ⟨F, rfl⟩ : ∃ G, F = G + 1 := ⟨F - 1, by omega⟩
  obtain ⟨v, rfl, s⟩ := s
  have ov := s.one
  simp only [oneCell] at ov
  have hln := s.len
  rw [cf_step (a := a47) rfl rfl (by simp [a47])]
  simp (disch := first | omega | (simp only [newRow_size, Array.size_setIfInBounds, Array.size_push]; done) | (simp only [newRow_size, Array.size_setIfInBounds, Array.size_push]; omega)) [a47, r47_0, ov, Msg.cells]
  generalize hz : [Value.slice none 0 0, .int .i64 0, .bool false] = zz
  generalize hm : [Value.int .i64 p.1.fr, .int .i64 p.1.to, .string p.1.b] = ms
  generalize hc' : [v, .int .i64 last, .bool nn] = cs'
  have kR : Kept h (Ev.newRow (Ev.newRow (Ev.newRow h cs' 0 []) ms 0 []) zz 0 []) [] := ((rowKept _ _ _ _).trans (rowKept _ _ _ _)).trans (rowKept _ _ _ _)
  have m0 : hget (Ev.newRow (Ev.newRow (Ev.newRow h cs' 0 []) ms 0 []) zz 0 []) h.size = some (.cells cs' 0 true []) := by simp (disch := first | omega | (simp only [newRow_size, Array.size_setIfInBounds, Array.size_push]; done) | (simp only [newRow_size, Array.size_setIfInBounds, Array.size_push]; omega)) []
  have m1 : hget (Ev.newRow (Ev.newRow (Ev.newRow h cs' 0 []) ms 0 []) zz 0 []) (h.size + 1) = some (.cells ms 0 true []) := by simp (disch := first | omega | (simp only [newRow_size, Array.size_setIfInBounds, Array.size_push]; done) | (simp only [newRow_size, Array.size_setIfInBounds, Array.size_push]; omega)) []
  have m2 : hget (Ev.newRow (Ev.newRow (Ev.newRow h cs' 0 []) ms 0 []) zz 0 []) (h.size + 2) = some (.cells zz 0 true []) := by simp (disch := first | omega | (simp only [newRow_size, Array.size_setIfInBounds, Array.size_push]; done) | (simp only [newRow_size, Array.size_setIfInBounds, Array.size_push]; omega)) []
  have zR : (Ev.newRow (Ev.newRow (Ev.newRow h cs' 0 []) ms 0 []) zz 0 []).size = h.size + 3 := by simp
  generalize Ev.newRow (Ev.newRow (Ev.newRow h cs' 0 []) ms 0 []) zz 0 [] = g at kR m0 m1 m2 zR ⊢
  subst hz hm hc'
  have sg := SlF.imp s (ok' := ok) (fun _ _ q => q) (keep_of kR.c (by simp))
  have fin : ∀ (g2 : H) (r : List Value), (∀ b, b < h.size → hget g2 b = hget h b) → h.size + 3 ≤ g2.size → Kept h (g2.setIfInBounds (h.size + 2) (.cells r 0 true [])) [] := by
    intro g2 r hg hz
    exact ⟨by simp; omega, fun c hc _ => by rw [set_other (by omega)]; exact hg c hc⟩
  by_cases hfull : nn = true ∨ 256 ≤ fl.length
  · have hm : putR nn fl last p = (fl, last, -1) := by unfold putR; rw [if_pos hfull]
    have hfin : Ans (some (Value.tuple ⟨[.agg ⟨[v, .int .i64 last, .bool nn]⟩, .int .i64 (-1)]⟩, g.setIfInBounds (h.size + 2) (.cells [v, .int .i64 last, .bool nn] 0 true []))) Q := by
      subst hQ
      rw [hm]
      refine Ans.of ⟨_, rfl, ⟨v, rfl, SlF.imp s (fun _ _ q => q) (keep_of (fin g _ (fun b hb => kR.get hb (by simp)) (by omega)).c (by simp))⟩, fin g _ (fun b hb => kR.get hb (by simp)) (by omega)⟩
    cases nn with
    | true =>
      simp (disch := first | omega | (simp only [newRow_size, Array.size_setIfInBounds, Array.size_push]; done) | (simp only [newRow_size, Array.size_setIfInBounds, Array.size_push]; omega)) [r47_1, m0, eqT, eqF, neT, neF, ltT, ltF, leT, leF, nltT, nltF, nleT, nleF, nneT, nneF, List.getElem?_cons_zero, List.getElem?_cons_succ, r47_2, m2, ov]
      exact hfin
    | false =>
      have h256 : 256 ≤ fl.length := by rcases hfull with e | e; cases e; exact e
      simp (disch := first | omega | (simp only [newRow_size, Array.size_setIfInBounds, Array.size_push]; done) | (simp only [newRow_size, Array.size_setIfInBounds, Array.size_push]; omega)) [r47_1, m0, eqT, eqF, neT, neF, ltT, ltF, leT, leF, nltT, nltF, nleT, nleF, nneT, nneF, List.getElem?_cons_zero, List.getElem?_cons_succ, hln, r47_2, m2, ov]
      exact hfin
  · have hnf : nn = false := by cases nn <;> simp_all
    subst hnf
    have hm : putR false fl last p = (fl ++ [(last + 1, p)], last + 1, last + 1) := by unfold putR; rw [if_neg hfull]
    have h256 : ¬ 256 ≤ fl.length := fun e => hfull (.inr e)
    have hwl : IntKind.i64.wrap (last + 1) = last + 1 := wrap_id (by omega) (by omega)
    simp (disch := first | omega | (simp only [newRow_size, Array.size_setIfInBounds, Array.size_push]; done) | (simp only [newRow_size, Array.size_setIfInBounds, Array.size_push]; omega)) [r47_1, m0, eqT, eqF, neT, neF, ltT, ltF, leT, leF, nltT, nltF, nleT, nleF, nneT, nneF, List.getElem?_cons_zero, List.getElem?_cons_succ, hln, r47_3, hwl, r47_4]
    refine loop_rule (fun m e g' => ∃ (i : Nat) (u : Value), m = fl.length - i ∧ i ≤ fl.length ∧ e = [(2, .bool p.2), (3, .pointer (some ⟨h.size, 0, none⟩)), (4, .pointer (some ⟨h.size + 1, 0, none⟩)), (6, .pointer (some ⟨h.size + 2, 0, none⟩)), (8, .pointer (some ⟨h.size + 3, 0, none⟩)), (9, .int .i64 i)] ∧
      (∀ b, b < h.size + 3 → hget g' b = hget g b) ∧ hget g' (h.size + 3) = some (.cells [u, .int .i64 (last + 1), .bool false] 0 true []) ∧ Bld (fun c => h.size + 4 ≤ c) 5 PclC g' u (fl.take i)) ?_ _ fl.length _ _ (by omega) ⟨0, .slice none 0 0, by omega, by omega, by rw [zR]; rfl, fun b hb => by simp (disch := first | omega | (simp only [newRow_size, Array.size_setIfInBounds, Array.size_push]; done) | (simp only [newRow_size, Array.size_setIfInBounds, Array.size_push]; omega)) [], by rw [← zR]; simp, Bld.nil _ _ _ _⟩
    rintro m e g' again ⟨i, u, rfl, hi, rfl, kg, n3, bu⟩ ih
    have n3s := lt_of_get n3
    have n0 := (kg h.size (by omega)).trans m0
    have n1 := (kg (h.size + 1) (by omega)).trans m1
    have n2 := (kg (h.size + 2) (by omega)).trans m2
    have sg' : SlR (fun c => ok c ∧ c < h.size) 5 PclC g' v fl := SlF.imp s (fun c hc q => ⟨q, hc⟩) (fun b zs hb hz => (cel_congr ((kg b (by have := cel_lt hz; omega)).trans (kR.get (cel_lt hz) (by simp)))).trans hz)
    have hw1 : IntKind.i64.wrap ((i : Int) + 1) = ((i + 1 : Nat) : Int) := by rw [wrap_id (by omega) (by omega)]; rfl
    have ou := bu.sl.one
    have vu := bu.sl.vc
    simp only [oneCell] at ou
    simp only [vcells] at vu
    by_cases hlt : i < fl.length
    · obtain ⟨x, hx⟩ : ∃ x, fl[i]? = some x := ⟨_, List.getElem?_eq_getElem hlt⟩
      obtain ⟨b, o, c, csx, es, lv, an, rfl, hk, hg, hle, hpc⟩ := sg'.at' hx
      obtain ⟨e5, e1, e3, e4⟩ := pc_at hpc hle
      have hgs := lt_of_get hg
      simp (disch := first | omega | (simp only [newRow_size, Array.size_setIfInBounds, Array.size_push]; done) | (simp only [newRow_size, Array.size_setIfInBounds, Array.size_push]; omega)) [l47_8, r47_5, n0, hln, eqT, eqF, neT, neF, ltT, ltF, leT, leF, nltT, nltF, nleT, nleF, nneT, nneF, List.getElem?_cons_zero, List.getElem?_cons_succ, d47_6, n3, hg, e5, srcOf]
      have kN := rowKept g' [.int .i64 x.1, .int .i64 x.2.1.fr, .int .i64 x.2.1.to, .string x.2.1.b, .bool x.2.2] 5 []
      have bN := bu.kept kN (by simp) (fun cs t _ q => q)
      refine Ans.nextE (bN.push (x := x) (bytes := 48) pcl_any rfl (by rw [List.length_take]; omega) (by simp; omega) rfl) ?_
      rintro u' h5 ⟨b5, z5, g5, _⟩
      have ou' := b5.sl.one
      have vu' := b5.sl.vc
      simp only [oneCell] at ou'
      simp only [vcells] at vu'
      simp only [newRow_size] at z5
      have q3 := (g5 (h.size + 3) (by omega)).trans ((kN.get n3s (by simp)).trans n3)
      simp (disch := first | omega | (simp only [newRow_size, Array.size_setIfInBounds, Array.size_push]; done) | (simp only [newRow_size, Array.size_setIfInBounds, Array.size_push]; omega)) [q3, ou', vu', eqT, eqF, neT, neF, ltT, ltF, leT, leF, nltT, nltF, nleT, nleF, nneT, nneF, List.getElem?_cons_zero, List.getElem?_cons_succ, r47_7, hw1]
      refine ih (fl.length - (i + 1)) _ _ (by omega) ⟨i + 1, u', rfl, by omega, rfl, ?_, by simp (disch := first | omega | (simp only [newRow_size, Array.size_setIfInBounds, Array.size_push]; done) | (simp only [newRow_size, Array.size_setIfInBounds, Array.size_push]; omega)) [], ?_⟩
      · intro b hb
        rw [set_other (by omega)]
        exact (g5 b (by omega)).trans ((kN.get (by omega) (by simp)).trans (kg b hb))
      · rw [take_snoc hx]
        refine b5.kept (L := [h.size + 3]) ⟨by simp, fun c hc hn => set_other (fun e => hn (by simp [e]))⟩ ?_ (fun cs t _ q => q)
        intro c hc
        simp at hc
        omega
    · have hii : i = fl.length := by omega
      subst hii
      rw [List.take_length] at bu
      simp (disch := first | omega | (simp only [newRow_size, Array.size_setIfInBounds, Array.size_push]; done) | (simp only [newRow_size, Array.size_setIfInBounds, Array.size_push]; omega)) [l47_8, r47_5, n0, hln, eqT, eqF, neT, neF, ltT, ltF, leT, leF, nltT, nltF, nleT, nleF, nneT, nneF, List.getElem?_cons_zero, List.getElem?_cons_succ, r47_9, n3, n1, srcOf]
      have kN := rowKept g' [.int .i64 (last + 1), .int .i64 p.1.fr, .int .i64 p.1.to, .string p.1.b, .bool p.2] 5 []
      have bN := bu.kept kN (by simp) (fun cs t _ q => q)
      refine Ans.next (bN.push (x := (last + 1, p)) (bytes := 48) pcl_any rfl (by omega) (by simp; omega) rfl) ?_
      rintro u' h5 ⟨b5, z5, g5, _⟩
      have ou' := b5.sl.one
      have vu' := b5.sl.vc
      have su' := SlR.same b5.sl
      simp only [oneCell] at ou'
      simp only [vcells] at vu'
      simp only [newRow_size] at z5
      have q3 := (g5 (h.size + 3) (by omega)).trans ((kN.get n3s (by simp)).trans n3)
      have q2 := (g5 (h.size + 2) (by omega)).trans ((kN.get (by omega) (by simp)).trans n2)
      simp (disch := first | omega | (simp only [newRow_size, Array.size_setIfInBounds, Array.size_push]; done) | (simp only [newRow_size, Array.size_setIfInBounds, Array.size_push]; omega)) [q3, ou', vu', eqT, eqF, neT, neF, ltT, ltF, leT, leF, nltT, nltF, nleT, nleF, nneT, nneF, List.getElem?_cons_zero, List.getElem?_cons_succ, d47_10, dk_go, chks_nil, chks_cons, chkA_nil, chkA_cons, chk1_no, chk1_yes, chkV_some, hAt_eq, hOf_some, hOf_none, sameV, sameL, q2, sameCell]
      subst hQ
      rw [hm]
      have k6 : Kept h5 ((h5.setIfInBounds (h.size + 3) (.cells [u', .int .i64 (last + 1), .bool false] 0 true [])).setIfInBounds (h.size + 2) (.cells [u', .int .i64 (last + 1), .bool false] 0 true [])) [h.size + 3, h.size + 2] := ⟨by simp, fun c hc hn => by
        simp at hn
        rw [set_other (by omega), set_other (by omega)]⟩
      have b6 := b5.kept k6 (by intro c hc; simp at hc; omega) (fun cs t _ q => q)
      refine Ans.of ⟨_, rfl, ⟨u', rfl, SlF.imp b6.sl (fun c _ hc => hok c (by have : h.size + 4 ≤ c := hc; omega)) (fun _ _ _ e => e)⟩, ⟨by have := k6.1; omega, fun c hc _ => ?_⟩⟩
      exact (k6.get (by omega) (by simp; omega)).trans ((g5 c (by omega)).trans ((kN.get (by omega) (by simp)).trans ((kg c (by omega)).trans (kR.get hc (by simp)))))

end Go.Proofs.Ytmenfnapbggglaa
