/- Several texts in one: Lb8, Le0, Le1, Le2, Le3, Le4, Le5, Le6, Le7, Le8. -/
import Derived.Test.YtmenfnapbggglaaM20

/- near. -/
set_option linter.unusedSimpArgs false
set_option linter.unusedVariables false
namespace Go.Proofs.Ytmenfnapbggglaa
open Go.Ev

/-- How many places differ. -/
def diffs : List UInt8 → List UInt8 → Nat
  | a :: l, b :: r => (if a = b then 0 else 1) + diffs l r
  | _, _ => 0

theorem diffs_le : ∀ (l r : List UInt8), diffs l r ≤ l.length
  | [], _ => by simp [diffs]
  | a :: l, [] => by simp [diffs]
  | a :: l, b :: r => by
    have := diffs_le l r
    simp only [diffs, List.length_cons]
    split <;> omega

theorem near_loop {F0 : Nat} {c : CF} {A B : Nat} {a b : Msg} {h : H} (ha : hget h A = some (.cells [.int .i64 a.fr, .int .i64 a.to, .string a.b] 0 true [])) (hb : hget h B = some (.cells [.int .i64 b.fr, .int .i64 b.to, .string b.b] 0 true []))
    (hl : slen a.b = slen b.b) (hmax : slen a.b ≤ 1000000000) {ke : Nat → K} {kr : K} {Q : Value → H → Prop}
    (hk : ∀ i, Ans (ke 0 [(2, .pointer (some ⟨A, 0, none⟩)), (3, .pointer (some ⟨B, 0, none⟩)), (5, .int .i64 (diffs a.b.data.toList b.b.data.toList)), (6, i), (32, .bool false)] h []) Q) :
    ∀ (n i cnt : Nat), i ≤ slen a.b → slen a.b < n + i → cnt ≤ i → cnt + diffs (a.b.data.toList.drop i) (b.b.data.toList.drop i) = diffs a.b.data.toList b.b.data.toList →
      Ans (loopK F0 c [2, 3, 5, 6] l22_9 ke kr n [(2, .pointer (some ⟨A, 0, none⟩)), (3, .pointer (some ⟨B, 0, none⟩)), (5, .int .i64 cnt), (6, .int .i64 i)] h []) Q := by
  have has := lt_of_get ha
  have hbs := lt_of_get hb
  have hla : a.b.data.toList.length = slen a.b := by rw [Array.length_toList]; rfl
  have hlb : b.b.data.toList.length = slen b.b := by rw [Array.length_toList]; rfl
  intro n
  induction n with
  | zero => intro i cnt hi hn; omega
  | succ n ih =>
    intro i cnt hi hn hc hd
    rw [loopK_succ]
    generalize loopK F0 c [2, 3, 5, 6] l22_9 ke kr n = again at ih ⊢
    simp [l22_9, r22_5, ha, has]
    by_cases hil : i < slen a.b
    · obtain ⟨x, hx⟩ : ∃ x, a.b.data[i]? = some x := ⟨a.b.data[i]'(by rw [← Array.length_toList]; omega), by rw [Array.getElem?_eq_getElem]⟩
      obtain ⟨y, hy⟩ : ∃ y, b.b.data[i]? = some y := ⟨b.b.data[i]'(by rw [← Array.length_toList]; omega), by rw [Array.getElem?_eq_getElem]⟩
      have hw : IntKind.i64.wrap ((i : Int) + 1) = ((i + 1 : Nat) : Int) := by rw [wrap_in (by omega) (by omega)]; omega
      have hwc : IntKind.i64.wrap ((cnt : Int) + 1) = ((cnt + 1 : Nat) : Int) := by rw [wrap_in (by omega) (by omega)]; omega
      have dx : a.b.data.toList.drop i = x :: a.b.data.toList.drop (i + 1) := by
        rw [List.drop_eq_getElem_cons (by omega)]
        congr 1
        have : a.b.data.toList[i]? = some x := by rw [Array.getElem?_toList]; exact hx
        rw [List.getElem?_eq_getElem (by omega)] at this
        exact Option.some.inj this
      have dy : b.b.data.toList.drop i = y :: b.b.data.toList.drop (i + 1) := by
        rw [List.drop_eq_getElem_cons (by omega)]
        congr 1
        have : b.b.data.toList[i]? = some y := by rw [Array.getElem?_toList]; exact hy
        rw [List.getElem?_eq_getElem (by omega)] at this
        exact Option.some.inj this
      rw [dx, dy, diffs] at hd
      simp only [hil, decide_true, condC_true, evC_skip, evC_seq, evC_block, evC_regionD, d22_6]
      simp only [evD_op, evOp, aeval, keep_cons, keep_nil, get_cons, Nat.reduceBEq, cond_true, cond_false, nextD_some, setD_some, rd, hget_eq, ha, hb, has, hbs]
      by_cases hxy : x = y
      · subst hxy
        simp [hx, hy, ha, hb, has, hbs, r22_8, hw]
        exact ih (i + 1) cnt hil (by omega) (by omega) (by simpa using hd)
      · have hxy' : (((x.toNat : Nat) : Int) != ((y.toNat : Nat) : Int)) = true := by
          simp only [bne_iff_ne, ne_eq, Int.natCast_inj]
          intro e
          exact hxy (UInt8.toNat_inj.1 e)
        simp [hx, hy, ha, hb, has, hbs, hxy', r22_7, r22_8, hw, hwc]
        exact ih (i + 1) (cnt + 1) hil (by omega) (by omega) (by rw [if_neg hxy] at hd; omega)
    · have hie : i = slen a.b := by omega
      have e : cnt = diffs a.b.data.toList b.b.data.toList := by
        rw [List.drop_of_length_le (by omega)] at hd
        simpa [diffs] using hd
      simp [hil]
      have := hk (.int .i64 i)
      rw [← e] at this
      exact this

theorem near_spec (F : Nat) (h : H) (a b : Msg) (h1 : a.fr = b.fr) (h2 : a.to = b.to) (h3 : slen a.b = slen b.b) (h4 : slen a.b ≤ F) (h5 : slen a.b ≤ 1000000000) (h6 : diffs a.b.data.toList b.b.data.toList ≤ 1) :
    Ans (cf (F + 1 + 1) 22 [a.val, b.val] h) fun r h' => r = .bool true ∧ Keeps h h' fun _ => False := by
  rw [cf_step (a := a22) rfl rfl (by simp [a22])]
  generalize cf (F + 1) = c
  simp [a22, r22_0, r22_1, Msg.val, Msg.cells, h1, h2, h3, r22_3, r22_4]
  refine near_loop (a := a) (b := b) (by simp [h1, h2]) (by simp [h1, h2]) h3 h5 ?_ (F + 1) 0 0 (by omega) (by omega) (by omega) (by simp)
  intro i
  have h6' : (diffs a.b.data.toList b.b.data.toList : Int) ≤ 1 := by omega
  simp [r22_10, h6']
  exact Ans.of ⟨rfl, ((Keeps.refl h _).row _ _ _).row _ _ _⟩

end Go.Proofs.Ytmenfnapbggglaa

/- LineHonest, the plain law: what was sent, and what of it is in flight. -/
set_option linter.unusedSimpArgs false
set_option linter.unusedVariables false
namespace Go.Proofs.Ytmenfnapbggglaa
open Go.Ev

/-- What was sent under one number: what is in flight of it, the message, is it taken. -/
structure Ent where
  p : Parcel
  m : Msg
  gone : Bool

def flOf : List Ent → Int → Flight
  | [], _ => []
  | e :: r, k => if e.gone = true then flOf r (k + 1) else (k, e.p) :: flOf r (k + 1)

theorem flOf_snoc (e : Ent) : ∀ (es : List Ent) (k : Int), flOf (es ++ [e]) k = flOf es k ++ (if e.gone = true then [] else [(k + es.length, e.p)])
  | [], k => by simp [flOf]
  | a :: es, k => by
    have e1 : k + 1 + (es.length : Int) = k + ((es.length : Int) + 1) := by omega
    simp only [List.cons_append, flOf, flOf_snoc e es (k + 1), List.length_cons]
    push_cast
    rw [e1]
    split <;> rfl

theorem flOf_ge : ∀ (es : List Ent) (k : Int), ∀ q ∈ flOf es k, k ≤ q.1 ∧ q.1 < k + es.length
  | [], k, q, h => by simp [flOf] at h
  | a :: es, k, q, h => by
    unfold flOf at h
    rw [List.length_cons]
    push_cast
    split at h
    · have := flOf_ge es (k + 1) q h; omega
    · rcases List.mem_cons.1 h with rfl | h
      · simp only; omega
      · have := flOf_ge es (k + 1) q h; omega

theorem lk_miss {n : Int} : ∀ (es : List Ent) (k : Int) (j : Nat), lk n (flOf es k) j = none → ∀ (i : Nat) (e : Ent), n = k + i → es[i]? = some e → e.gone = true
  | [], k, j, _, i, e, _, h => by simp at h
  | a :: es, k, j, hl, i, e, hn, h => by
    unfold flOf at hl
    cases i with
    | zero =>
      simp at h
      subst h
      cases hg : a.gone with
      | true => rfl
      | false =>
        rw [hg, if_neg (by simp)] at hl
        unfold lk at hl
        rw [if_pos (by simpa using hn)] at hl
        cases hl
    | succ i =>
      have hn' : n = k + 1 + (i : Int) := by rw [hn]; push_cast; omega
      split at hl
      · exact lk_miss es (k + 1) j hl i e hn' (by simpa using h)
      · unfold lk at hl
        split at hl
        · cases hl
        · exact lk_miss es (k + 1) (j + 1) hl i e hn' (by simpa using h)

theorem notN_none {n : Int} : ∀ (fl : Flight), (∀ q ∈ fl, q.1 ≠ n) → notN n fl = fl := fun fl h => by
  unfold notN
  rw [List.filter_eq_self]
  intro q hq
  simpa using h q hq

theorem lk_hit' {n : Int} : ∀ (es : List Ent) (k : Int) (j0 j : Nat) (p : Parcel), lk n (flOf es k) j0 = some (j, p) → ∃ (i : Nat) (e : Ent), n = k + i ∧ es[i]? = some e ∧ e.gone = false ∧ e.p = p ∧ j0 ≤ j ∧ (∀ p', (flOf es k).set (j - j0) (n, p') = flOf (es.set i { e with p := p' }) k) ∧ notN n (flOf es k) = flOf (es.set i { e with gone := true }) k
  | [], k, j0, j, p, h => by simp [flOf, lk] at h
  | a :: es, k, j0, j, p, h => by
    unfold flOf at h
    cases hg : a.gone with
    | true =>
      rw [hg, if_pos rfl] at h
      obtain ⟨i, e, h1, h2, h3, h4, h5, h6, h7⟩ := lk_hit' es (k + 1) j0 j p h
      refine ⟨i + 1, e, by rw [h1]; push_cast; omega, by simpa using h2, h3, h4, h5, ?_, ?_⟩
      · intro p'
        have := h6 p'
        simp only [List.set_cons_succ, flOf, hg, if_true]
        exact this
      · simp only [List.set_cons_succ, flOf, hg, if_true]
        exact h7
    | false =>
      rw [hg, if_neg (by simp)] at h
      unfold lk at h
      split at h
      · rename_i hn
        cases h
        simp only at hn
        refine ⟨0, a, by simpa using hn, rfl, hg, rfl, Nat.le_refl _, ?_, ?_⟩
        · intro p'
          simp only [Nat.sub_self, List.set_cons_zero, flOf, hg]
          rw [if_neg (by simp), List.set_cons_zero, hn]
          rfl
        · simp only [List.set_cons_zero, flOf, hg, if_true]
          rw [if_neg (by simp)]
          unfold notN
          rw [List.filter_cons_of_neg (by simp [hn])]
          exact notN_none _ (fun q hq => by have := flOf_ge es (k + 1) q hq; omega)
      · rename_i hn
        obtain ⟨i, e, h1, h2, h3, h4, h5, h6, h7⟩ := lk_hit' es (k + 1) (j0 + 1) j p h
        simp only at hn
        refine ⟨i + 1, e, by rw [h1]; push_cast; omega, by simpa using h2, h3, h4, by omega, ?_, ?_⟩
        · intro p'
          have := h6 p'
          simp only [List.set_cons_succ, flOf, hg]
          rw [if_neg (by simp), if_neg (by simp), show j - j0 = (j - (j0 + 1)) + 1 by omega, List.set_cons_succ, this]
        · simp only [List.set_cons_succ, flOf, hg]
          rw [if_neg (by simp), if_neg (by simp)]
          unfold notN at h7 ⊢
          rw [List.filter_cons_of_pos (by simp; exact fun e => hn e.symm), h7]

/-- A parcel in flight and the message that was sent. -/
def Near (p : Parcel) (m : Msg) : Prop := p.1.fr = m.fr ∧ p.1.to = m.to ∧ slen p.1.b = slen m.b ∧ diffs p.1.b.data.toList m.b.data.toList ≤ 1 ∧ (p.2 = false → p.1 = m)

/-- The book agrees with the line. -/
structure Bk (es : List Ent) (fl : Flight) (last : Int) : Prop where
  fl : fl = flOf es 1
  last : last = es.length
  near : ∀ e ∈ es, e.gone = false → Near e.p e.m

end Go.Proofs.Ytmenfnapbggglaa

/- LineHonest, the plain law: each step keeps the book. -/
set_option linter.unusedSimpArgs false
set_option linter.unusedVariables false
namespace Go.Proofs.Ytmenfnapbggglaa
open Go.Ev

theorem diffs_same : ∀ l : List UInt8, diffs l l = 0
  | [] => rfl
  | a :: l => by simp [diffs, diffs_same l]

theorem diffs_one : ∀ (l : List UInt8) (j : Nat) (y : UInt8), diffs (l.set j y) l ≤ 1
  | [], _, _ => by simp [diffs]
  | a :: l, 0, y => by
    simp only [List.set_cons_zero, diffs, diffs_same]
    split <;> omega
  | a :: l, j + 1, y => by simp [diffs, diffs_one l j y]

theorem Near.refl (m : Msg) : Near (m, false) m := ⟨rfl, rfl, rfl, by rw [diffs_same]; omega, fun _ => rfl⟩

theorem Near.turn {p : Parcel} {m : Msg} (h : Near p m) (hp : p.2 = false) (j : Nat) (turn : Int) : Near (⟨p.1.fr, p.1.to, turnB p.1.b j turn⟩, true) m := by
  have e := h.2.2.2.2 hp
  refine ⟨h.1, h.2.1, ?_, ?_, fun q => by cases q⟩
  · show slen (turnB p.1.b j turn) = slen m.b
    rw [turnB_len]; exact h.2.2.1
  · show diffs (turnB p.1.b j turn).data.toList m.b.data.toList ≤ 1
    rw [← e]
    unfold turnB
    exact diffs_one _ _ _

def liveN (es : List Ent) : Nat := (flOf es 1).length

theorem Bk.nil : Bk [] [] 0 := ⟨rfl, rfl, by simp⟩

theorem Bk.add {es : List Ent} {fl : Flight} {last : Int} (b : Bk es fl last) {p : Parcel} {m : Msg} (hn : Near p m) : Bk (es ++ [⟨p, m, false⟩]) (fl ++ [(last + 1, p)]) (last + 1) := by
  refine ⟨?_, ?_, ?_⟩
  · rw [flOf_snoc, b.fl, b.last]
    simp
    omega
  · rw [b.last]; simp
  · intro e he hg
    rcases List.mem_append.1 he with he | he
    · exact b.near e he hg
    · simp at he; subst he; exact hn

/-- One message put in. -/
def putE (es : List Ent) (m : Msg) : List Ent := if 256 ≤ liveN es then es else es ++ [⟨(m, false), m, false⟩]

theorem Bk.put {es : List Ent} {fl : Flight} {last : Int} (b : Bk es fl last) (m : Msg) : Bk (putE es m) (putR false fl last (m, false)).1 (putR false fl last (m, false)).2.1 ∧ (putR false fl last (m, false)).2.2 = if 256 ≤ liveN es then -1 else (es.length : Int) + 1 := by
  have e : liveN es = fl.length := by unfold liveN; rw [b.fl]
  unfold putE putR
  rw [e]
  by_cases h : 256 ≤ fl.length
  · rw [if_pos h, if_pos (.inr h), if_pos h]
    exact ⟨b, rfl⟩
  · rw [if_neg h, if_neg (by simp; omega), if_neg h]
    exact ⟨b.add (Near.refl m), by simp only; rw [b.last]⟩

def sendE (es : List Ent) (ms : List Msg) : List Ent := ms.foldl putE es

theorem sendE_snoc (es : List Ent) (ms : List Msg) (m : Msg) : sendE es (ms ++ [m]) = putE (sendE es ms) m := by
  simp [sendE, List.foldl_append]

theorem sendR_app (nn : Bool) : ∀ (a b : List Msg) (fl : Flight) (last : Int), sendR nn fl last (a ++ b) = ((sendR nn (sendR nn fl last a).1 (sendR nn fl last a).2.1 b).1, (sendR nn (sendR nn fl last a).1 (sendR nn fl last a).2.1 b).2.1, (sendR nn fl last a).2.2 ++ (sendR nn (sendR nn fl last a).1 (sendR nn fl last a).2.1 b).2.2)
  | [], b, fl, last => by simp [sendR]
  | m :: a, b, fl, last => by
    simp only [List.cons_append, sendR]
    rw [sendR_app nn a b]

theorem Bk.send : ∀ (ms : List Msg) {es : List Ent} {fl : Flight} {last : Int}, Bk es fl last → Bk (sendE es ms) (sendR false fl last ms).1 (sendR false fl last ms).2.1
  | [], es, fl, last, b => b
  | m :: r, es, fl, last, b => by
    simp only [sendR]
    exact Bk.send r (b.put m).1

theorem send_at {es : List Ent} {fl : Flight} {last : Int} (b : Bk es fl last) {ms : List Msg} {i : Nat} {m : Msg} (hm : ms[i]? = some m) : (sendR false fl last ms).2.2[i]? = some (if 256 ≤ liveN (sendE es (ms.take i)) then -1 else ((sendE es (ms.take i)).length : Int) + 1) := by
  have hil := (List.getElem?_eq_some_iff.1 hm).1
  have e : ms = ms.take i ++ m :: ms.drop (i + 1) := by
    have h1 := List.take_append_drop i ms
    rw [List.drop_eq_getElem_cons hil] at h1
    have h2 : ms[i] = m := (List.getElem?_eq_some_iff.1 hm).2
    rw [h2] at h1
    exact h1.symm
  have hl : (sendR false fl last (ms.take i)).2.2.length = i := by
    rw [sendR_ns, List.length_take]; omega
  have h3 : (sendR false fl last ms).2.2 = (sendR false fl last (ms.take i)).2.2 ++ (sendR false (sendR false fl last (ms.take i)).1 (sendR false fl last (ms.take i)).2.1 (m :: ms.drop (i + 1))).2.2 := by
    conv => lhs; rw [e, sendR_app]
  rw [h3, List.getElem?_append_right (by omega), hl, Nat.sub_self]
  simp only [sendR, List.getElem?_cons_zero]
  rw [((Bk.send (ms.take i) b).put m).2]

theorem Bk.take {es : List Ent} {fl : Flight} {last : Int} (b : Bk es fl last) {n : Int} {j : Nat} {p : Parcel} (h : lk n fl 0 = some (j, p)) : ∃ (i : Nat) (e : Ent), n = 1 + i ∧ es[i]? = some e ∧ e.gone = false ∧ e.p = p ∧ Bk (es.set i { e with gone := true }) (takeR n fl) last := by
  have h' := h
  rw [b.fl] at h'
  obtain ⟨i, e, h1, h2, h3, h4, _, _, h7⟩ := lk_hit' es 1 0 j p h'
  refine ⟨i, e, h1, h2, h3, h4, ⟨?_, by rw [b.last]; simp, ?_⟩⟩
  · unfold takeR
    rw [h]
    rw [b.fl]
    exact h7
  · intro q hq hg
    rcases List.mem_or_eq_of_mem_set hq with hq | rfl
    · exact b.near q hq hg
    · cases hg

theorem Bk.miss {es : List Ent} {fl : Flight} {last : Int} (b : Bk es fl last) {n : Int} (h : lk n fl 0 = none) : ∀ (i : Nat) (e : Ent), n = 1 + i → es[i]? = some e → e.gone = true := by
  rw [b.fl] at h
  exact lk_miss es 1 0 h

theorem Bk.hit {es : List Ent} {fl : Flight} {last : Int} (b : Bk es fl last) {n : Int} {j : Nat} {p : Parcel} (h : lk n fl 0 = some (j, p)) : ∃ (i : Nat) (e : Ent), n = 1 + i ∧ es[i]? = some e ∧ e.gone = false ∧ e.p = p := by
  rw [b.fl] at h
  obtain ⟨i, e, h1, h2, h3, h4, _⟩ := lk_hit' es 1 0 j p h
  exact ⟨i, e, h1, h2, h3, h4⟩

theorem Bk.spoil {es : List Ent} {fl : Flight} {last : Int} (b : Bk es fl last) (n at' turn : Int) : ∃ es', Bk es' (spoilR n at' turn fl).1 last ∧ es'.map (·.m) = es.map (·.m) ∧ es'.map (·.gone) = es.map (·.gone) := by
  unfold spoilR
  cases hlk : lk n fl 0 with
  | none => exact ⟨es, b, rfl, rfl⟩
  | some jp =>
    obtain ⟨j, p⟩ := jp
    simp only
    split
    · exact ⟨es, b, rfl, rfl⟩
    split
    · exact ⟨es, b, rfl, rfl⟩
    · rename_i hp
      have h' := hlk
      rw [b.fl] at h'
      obtain ⟨i, e, h1, h2, h3, h4, _, h6, _⟩ := lk_hit' es 1 0 j p h'
      have hm := List.mem_of_getElem? h2
      have hp' : p.2 = false := by simpa using hp
      have hn := b.near e hm h3
      rw [h4] at hn
      have hset : ∀ {β : Type} (f : Ent → β) (e' : Ent), f e' = f e → (es.set i e').map f = es.map f := by
        intro β f e' he
        rw [List.map_set, he]
        apply List.ext_getElem?
        intro k
        by_cases hk : i = k
        · subst hk
          rw [List.getElem?_set_self (by simpa using (List.getElem?_eq_some_iff.1 h2).1), List.getElem?_map, h2]; rfl
        · rw [List.getElem?_set_ne hk]
      refine ⟨es.set i { e with p := (⟨p.1.fr, p.1.to, turnB p.1.b (at' % slen p.1.b).toNat turn⟩, true) }, ⟨?_, by rw [b.last]; simp, ?_⟩, hset _ _ rfl, hset _ _ rfl⟩
      · have := h6 (⟨p.1.fr, p.1.to, turnB p.1.b (at' % slen p.1.b).toNat turn⟩, true)
        rw [Nat.sub_zero, ← b.fl] at this
        exact this
      · intro q hq hg
        rcases List.mem_or_eq_of_mem_set hq with hq | rfl
        · exact b.near q hq hg
        · exact hn.turn hp' _ _

theorem flOf_len : ∀ (es : List Ent) (k : Int), (flOf es k).length = (es.filter fun e => !e.gone).length
  | [], _ => rfl
  | a :: es, k => by
    unfold flOf
    cases hg : a.gone with
    | true => rw [if_pos rfl, List.filter_cons_of_neg (by simp [hg]), flOf_len es]
    | false => rw [if_neg (by simp), List.filter_cons_of_pos (by simp [hg]), List.length_cons, List.length_cons, flOf_len es]

end Go.Proofs.Ytmenfnapbggglaa

/- LineHonest: the book in memory; live, find. -/
set_option linter.unusedSimpArgs false
set_option linter.unusedVariables false
namespace Go.Proofs.Ytmenfnapbggglaa
open Go.Ev

def numsV (n : Nat) : List Value := (List.range n).map fun (i : Nat) => .int .i64 ((i : Int) + 1)
theorem numsV_len (n : Nat) : (numsV n).length = n := by simp [numsV]
theorem numsV_snoc (n : Nat) : numsV (n + 1) = numsV n ++ [.int .i64 ((n : Int) + 1)] := by
  simp [numsV, List.range_succ]

structure SentA (h : H) (sb : Nat) (ms : List Msg) (gs : List Bool) (vn vm vg : Value) (on om og : List Nat) (csn csm csg : List Value) : Prop where
  at' : hget h sb = some (.cells [vn, vm, vg] 0 true [])
  ln : LayO 1 h vn ms.length on csn
  lm : LayO 3 h vm ms.length om csm
  lg : LayO 1 h vg ms.length og csg
  cn : csn.take ms.length = numsV ms.length
  cm : csm.take (ms.length * 3) = mcells ms
  cg : csg.take ms.length = gs.map .bool
  gl : gs.length = ms.length
  nd : (on ++ om ++ og).Nodup
  lt : ∀ c ∈ on ++ om ++ og, c < h.size
  sbn : sb ∉ on ++ om ++ og

def SentS (h : H) (sb : Nat) (ms : List Msg) (gs : List Bool) (O : List Nat) : Prop := ∃ vn vm vg on om og csn csm csg, SentA h sb ms gs vn vm vg on om og csn csm csg ∧ O = sb :: (on ++ om ++ og)

theorem SentS.kept {h h' : H} {sb : Nat} {ms : List Msg} {gs : List Bool} {O L : List Nat} (s : SentS h sb ms gs O) (k : Kept h h' L) (hL : ∀ c ∈ O, c ∉ L) : SentS h' sb ms gs O := by
  obtain ⟨vn, vm, vg, on, om, og, csn, csm, csg, s, rfl⟩ := s
  refine ⟨vn, vm, vg, on, om, og, csn, csm, csg, ⟨(k.get (lt_of_get s.at') (hL sb (by simp))).trans s.at', s.ln.kept k ?_, s.lm.kept k ?_, s.lg.kept k ?_, s.cn, s.cm, s.cg, s.gl, s.nd, fun c hc => Nat.lt_of_lt_of_le (s.lt c hc) k.1, s.sbn⟩, rfl⟩
  · exact fun c hc => hL c (by simp [hc])
  · exact fun c hc => hL c (by simp [hc])
  · exact fun c hc => hL c (by simp [hc])
theorem SentS.lt {h : H} {sb : Nat} {ms : List Msg} {gs : List Bool} {O : List Nat} (s : SentS h sb ms gs O) : ∀ c ∈ O, c < h.size := by
  obtain ⟨vn, vm, vg, on, om, og, csn, csm, csg, s, rfl⟩ := s
  intro c hc
  rcases List.mem_cons.1 hc with rfl | hc
  · exact lt_of_get s.at'
  · exact s.lt c hc
theorem SentS.len {h : H} {sb : Nat} {ms : List Msg} {gs : List Bool} {O : List Nat} (s : SentS h sb ms gs O) : gs.length = ms.length := by
  obtain ⟨vn, vm, vg, on, om, og, csn, csm, csg, s, rfl⟩ := s
  exact s.gl

/-- An element of a list that lies. -/
theorem LayO_at1 {h : H} {v : Value} {n i : Nat} {own : List Nat} {cs l : List Value} {x : Value} (s : LayO 1 h v n own cs) (hl : cs.take n = l) (hx : l[i]? = some x) (hi : i < n) : ∃ b an c, own = b :: an ∧ v = .slice (some ⟨b, 0, none⟩) n c ∧ hget h b = some (.cells cs 1 true an) ∧ (cs.drop i).take 1 = [x] ∧ i + 1 ≤ cs.length := by
  obtain ⟨b, an, c, e1, e2, e3, e4, e5⟩ := s.row (by omega)
  refine ⟨b, an, c, e1, e2, e3, ?_, by omega⟩
  have h1 : cs[i]? = some x := by
    rw [← hx, ← hl, List.getElem?_take_of_lt hi]
  rw [List.take_one, List.head?_drop, h1]
  rfl

theorem LayO_at3 {h : H} {v : Value} {n i : Nat} {own : List Nat} {cs : List Value} {ms : List Msg} {m : Msg} (s : LayO 3 h v n own cs) (hl : cs.take (n * 3) = mcells ms) (hx : ms[i]? = some m) (hi : i < n) : ∃ b an c, own = b :: an ∧ v = .slice (some ⟨b, 0, none⟩) n c ∧ hget h b = some (.cells cs 3 true an) ∧ (cs.drop (i * 3)).take 3 = [.int .i64 m.fr, .int .i64 m.to, .string m.b] ∧ i * 3 + 3 ≤ cs.length := by
  obtain ⟨b, an, c, e1, e2, e3, e4, e5⟩ := s.row (by omega)
  refine ⟨b, an, c, e1, e2, e3, ?_, by omega⟩
  have := mcells_at hx []
  rw [List.append_nil, ← hl, List.drop_take, List.take_take, Nat.min_eq_left (by omega)] at this
  exact this

def cntB (gs : List Bool) : Nat := (gs.filter fun g => !g).length

set_option maxHeartbeats 1000000 in
theorem live_spec {F : Nat} (hF : 60000 ≤ F) {h : H} {sb : Nat} {ms : List Msg} {gs : List Bool} {O : List Nat} (s : SentS h sb ms gs O) (hl : ms.length ≤ 50000) :
    Ans (cf F 30 [.pointer (some ⟨sb, 0, none⟩)] h) fun u h' => u = .int .i64 (cntB gs) ∧ h' = h := by
  generalize hQ : (fun (u : Value) (h' : H) => u = Value.int .i64 (cntB gs) ∧ h' = h) = Q
  obtain ⟨F, rfl⟩ : ∃ G, F = G + 1 := ⟨F - 1, by omega⟩
  obtain ⟨vn, vm, vg, on, om, og, csn, csm, csg, s, rfl⟩ := s
  have hgl := s.gl
  have hsb := s.at'
  have hsbs := lt_of_get hsb
  have hlv := s.lg.lenV
  rw [cf_step (a := a30) rfl rfl (by simp [a30])]
  simp (disch := first | omega | (simp only [newRow_size, Array.size_setIfInBounds, Array.size_push]; done) | (simp only [newRow_size, Array.size_setIfInBounds, Array.size_push]; omega)) [a30, r30_0, r30_1, r30_2]
  refine loop_rule (fun m e g => ∃ (i : Nat), m = ms.length - i ∧ i ≤ ms.length ∧ e = [(0, .pointer (some ⟨sb, 0, none⟩)), (3, .int .i64 (cntB (gs.take i))), (4, .int .i64 i)] ∧ g = h) ?_ _ ms.length _ _ (by omega) ⟨0, by omega, by omega, rfl, rfl⟩
  rintro m e g again ⟨i, rfl, hi, rfl, rfl⟩ ih
  have hw : IntKind.i64.wrap ((i : Int) + 1) = ((i + 1 : Nat) : Int) := by rw [wrap_id (by omega) (by omega)]; rfl
  have hcb : cntB (gs.take i) ≤ i := by
    unfold cntB
    refine Nat.le_trans (List.length_filter_le _ _) ?_
    rw [List.length_take]; omega
  have hw2 : IntKind.i64.wrap ((cntB (gs.take i) : Int) + 1) = ((cntB (gs.take i) + 1 : Nat) : Int) := by rw [wrap_id (by omega) (by omega)]; rfl
  by_cases hlt : i < ms.length
  · obtain ⟨b, hb⟩ : ∃ b, gs[i]? = some b := ⟨_, List.getElem?_eq_getElem (by omega)⟩
    obtain ⟨bb, an, c, e1, rfl, hg, ha, hle⟩ := LayO_at1 s.lg s.cg (x := .bool b) (by rw [List.getElem?_map, hb]; rfl) hlt
    have hgs := lt_of_get hg
    have hlt' : (i : Int) < (ms.length : Int) := by omega
    have hsn : cntB (gs.take (i + 1)) = cntB (gs.take i) + (if b = true then 0 else 1) := by
      unfold cntB
      rw [take_snoc hb, List.filter_append, List.length_append]
      cases b <;> simp
    cases b with
    | true =>
      simp (disch := first | omega | (simp only [newRow_size, Array.size_setIfInBounds, Array.size_push]; done) | (simp only [newRow_size, Array.size_setIfInBounds, Array.size_push]; omega)) [l30_7, r30_3, hsb, hlt', hlt, eqT, eqF, neT, neF, ltT, ltF, leT, leF, nltT, nltF, nleT, nleF, nneT, nneF, List.getElem?_cons_zero, List.getElem?_cons_succ, r30_4, hg, ha, hle, r30_6, hw]
      refine ih (ms.length - (i + 1)) _ _ (by omega) ⟨i + 1, rfl, by omega, ?_, rfl⟩
      rw [hsn]; simp
    | false =>
      simp (disch := first | omega | (simp only [newRow_size, Array.size_setIfInBounds, Array.size_push]; done) | (simp only [newRow_size, Array.size_setIfInBounds, Array.size_push]; omega)) [l30_7, r30_3, hsb, hlt', hlt, eqT, eqF, neT, neF, ltT, ltF, leT, leF, nltT, nltF, nleT, nleF, nneT, nneF, List.getElem?_cons_zero, List.getElem?_cons_succ, r30_4, hg, ha, hle, r30_5, r30_6, hw, hw2]
      refine ih (ms.length - (i + 1)) _ _ (by omega) ⟨i + 1, rfl, by omega, ?_, rfl⟩
      rw [hsn]; simp
  · have hii : i = ms.length := by omega
    subst hii
    rw [← hgl, List.take_length]
    rw [← hgl] at hlv
    simp (disch := first | omega | (simp only [newRow_size, Array.size_setIfInBounds, Array.size_push]; done) | (simp only [newRow_size, Array.size_setIfInBounds, Array.size_push]; omega)) [l30_7, r30_3, hsb, hlv, eqT, eqF, neT, neF, ltT, ltF, leT, leF, nltT, nltF, nleT, nleF, nneT, nneF, List.getElem?_cons_zero, List.getElem?_cons_succ, r30_8]
    subst hQ
    exact Ans.of ⟨rfl, rfl⟩

def findN (len : Nat) (n : Int) : Int := if 1 ≤ n ∧ n ≤ len then n - 1 else -1

set_option maxHeartbeats 1000000 in
theorem findS_spec {F : Nat} (hF : 60000 ≤ F) {h : H} {sb : Nat} {ms : List Msg} {gs : List Bool} {O : List Nat} (s : SentS h sb ms gs O) (hl : ms.length ≤ 50000) (n : Int) :
    Ans (cf F 31 [.pointer (some ⟨sb, 0, none⟩), .int .i64 n] h) fun u h' => u = .int .i64 (findN ms.length n) ∧ h' = h := by
  generalize hQ : (fun (u : Value) (h' : H) => u = Value.int .i64 (findN ms.length n) ∧ h' = h) = Q
  obtain ⟨F, rfl⟩ : ∃ G, F = G + 1 := ⟨F - 1, by omega⟩
  obtain ⟨vn, vm, vg, on, om, og, csn, csm, csg, s, rfl⟩ := s
  have hsb := s.at'
  have hsbs := lt_of_get hsb
  have hlv := s.ln.lenV
  rw [cf_step (a := a31) rfl rfl (by simp [a31])]
  simp (disch := first | omega | (simp only [newRow_size, Array.size_setIfInBounds, Array.size_push]; done) | (simp only [newRow_size, Array.size_setIfInBounds, Array.size_push]; omega)) [a31, r31_0, r31_1]
  refine loop_rule (fun m e g => ∃ (i : Nat), m = ms.length - i ∧ i ≤ ms.length ∧ e = [(0, .pointer (some ⟨sb, 0, none⟩)), (1, .int .i64 n), (5, .int .i64 i)] ∧ g = h ∧ ¬ (1 ≤ n ∧ n ≤ i)) ?_ _ ms.length _ _ (by omega) ⟨0, by omega, by omega, rfl, rfl, by omega⟩
  rintro m e g again ⟨i, rfl, hi, rfl, rfl, hno⟩ ih
  have hw : IntKind.i64.wrap ((i : Int) + 1) = ((i + 1 : Nat) : Int) := by rw [wrap_id (by omega) (by omega)]; rfl
  by_cases hlt : i < ms.length
  · obtain ⟨bb, an, c, e1, rfl, hg, ha, hle⟩ := LayO_at1 (i := i) s.ln s.cn (x := .int .i64 ((i : Int) + 1)) (by simp [numsV, hlt]) hlt
    have hgs := lt_of_get hg
    have hlt' : (i : Int) < (ms.length : Int) := by omega
    by_cases hn : (i : Int) + 1 = n
    · have hf : findN ms.length n = i := by unfold findN; rw [if_pos (by omega)]; omega
      simp (disch := first | omega | (simp only [newRow_size, Array.size_setIfInBounds, Array.size_push]; done) | (simp only [newRow_size, Array.size_setIfInBounds, Array.size_push]; omega)) [l31_6, r31_2, hsb, hlt', hlt, eqT, eqF, neT, neF, ltT, ltF, leT, leF, nltT, nltF, nleT, nleF, nneT, nneF, List.getElem?_cons_zero, List.getElem?_cons_succ, r31_3, hg, ha, hle, hn, r31_4]
      subst hQ
      exact Ans.of ⟨by rw [hf], rfl⟩
    · simp (disch := first | omega | (simp only [newRow_size, Array.size_setIfInBounds, Array.size_push]; done) | (simp only [newRow_size, Array.size_setIfInBounds, Array.size_push]; omega)) [l31_6, r31_2, hsb, hlt', hlt, eqT, eqF, neT, neF, ltT, ltF, leT, leF, nltT, nltF, nleT, nleF, nneT, nneF, List.getElem?_cons_zero, List.getElem?_cons_succ, r31_3, hg, ha, hle, hn, r31_5, hw]
      exact ih (ms.length - (i + 1)) _ _ (by omega) ⟨i + 1, rfl, by omega, rfl, rfl, by push_cast; omega⟩
  · have hii : i = ms.length := by omega
    subst hii
    have hf : findN ms.length n = -1 := by unfold findN; rw [if_neg hno]
    simp (disch := first | omega | (simp only [newRow_size, Array.size_setIfInBounds, Array.size_push]; done) | (simp only [newRow_size, Array.size_setIfInBounds, Array.size_push]; omega)) [l31_6, r31_2, hsb, hlv, eqT, eqF, neT, neF, ltT, ltF, leT, leF, nltT, nltF, nleT, nleF, nneT, nneF, List.getElem?_cons_zero, List.getElem?_cons_succ, r31_7]
    subst hQ
    exact Ans.of ⟨by rw [hf], rfl⟩

end Go.Proofs.Ytmenfnapbggglaa

/- LineHonest: put. -/
set_option linter.unusedSimpArgs false
set_option linter.unusedVariables false
namespace Go.Proofs.Ytmenfnapbggglaa
open Go.Ev

theorem _root_.Go.Ev.kept_at {g : H} {b : Nat} (x : Blk) : Kept g (g.setIfInBounds b x) [b] := ⟨by simp, fun c hc hn => set_other (fun e => hn (by simp [e]))⟩

/-- Three lists, disjoint: one of them moves. -/
theorem nd_move {a b c b' : List Nat} {h : H} (hnd : (a ++ b ++ c).Nodup) (hlt : ∀ x ∈ a ++ b ++ c, x < h.size) (hb' : b'.Nodup) (hm : ∀ x ∈ b', x ∈ b ∨ h.size ≤ x) : (a ++ b' ++ c).Nodup := by
  rw [List.nodup_append, List.nodup_append] at hnd ⊢
  obtain ⟨⟨h1, h2, h3⟩, h4, h5⟩ := hnd
  refine ⟨⟨h1, hb', ?_⟩, h4, ?_⟩
  · intro x hx y hy e
    subst e
    rcases hm x hy with q | q
    · exact h3 x hx x q rfl
    · have := hlt x (by simp [hx]); omega
  · intro x hx y hy e
    subst e
    rcases List.mem_append.1 hx with hx | hx
    · exact h5 x (by simp [hx]) x hy rfl
    · rcases hm x hx with q | q
      · exact h5 x (by simp [q]) x hy rfl
      · have := hlt x (by simp [hy]); omega

set_option maxHeartbeats 2000000 in
theorem putS_spec {F : Nat} (hF : 60000 ≤ F) {h : H} {sb : Nat} {ms : List Msg} {gs : List Bool} {O : List Nat} (s : SentS h sb ms gs O) (hl : ms.length ≤ 50000) (m : Msg) :
    Ans (cf F 42 [.pointer (some ⟨sb, 0, none⟩), .int .i64 ((ms.length : Int) + 1), .agg ⟨m.cells⟩] h) fun u h' => u = .bool true ∧ ∃ O', SentS h' sb (ms ++ [m]) (gs ++ [false]) O' ∧ Moves h h' O O' := by
  generalize hQ : (fun (u : Value) (h' : H) => u = Value.bool true ∧ ∃ O', SentS h' sb (ms ++ [m]) (gs ++ [false]) O' ∧ Moves h h' O O') = Q
  obtain ⟨F, rfl⟩ : ∃ G, F = G + 1 := ⟨F - 1, by omega⟩
  obtain ⟨vn, vm, vg, on, om, og, csn, csm, csg, s, rfl⟩ := s
  have hgl := s.gl
  have hsb := s.at'
  have hsbs := lt_of_get hsb
  have hlv := s.ln.lenV
  have hw : IntKind.i64.wrap ((ms.length : Int) + 1) = (ms.length : Int) + 1 := by rw [wrap_id (by omega) (by omega)]
  have ovn := s.ln.one
  have ovm := s.lm.one
  have ovg := s.lg.one
  simp only [oneCell] at ovn ovm ovg
  have hon : ∀ c ∈ on, c < h.size := fun c hc => s.lt c (by simp [hc])
  have hom : ∀ c ∈ om, c < h.size := fun c hc => s.lt c (by simp [hc])
  have hog : ∀ c ∈ og, c < h.size := fun c hc => s.lt c (by simp [hc])
  have nds := s.nd
  have hnd := s.nd
  rw [List.nodup_append, List.nodup_append] at hnd
  obtain ⟨⟨ndn, ndm, dnm⟩, ndg, dxg⟩ := hnd
  have sbn : sb ∉ on := fun q => s.sbn (by simp [q])
  have sbm : sb ∉ om := fun q => s.sbn (by simp [q])
  have sbg : sb ∉ og := fun q => s.sbn (by simp [q])
  have hmc : m.cells = [.int .i64 m.fr, .int .i64 m.to, .string m.b] := rfl
  rw [cf_step (a := a42) rfl rfl (by simp [a42]), hmc]
  simp (disch := first | omega | (simp only [newRow_size, Array.size_setIfInBounds, Array.size_push]; done) | (simp only [newRow_size, Array.size_setIfInBounds, Array.size_push]; omega)) [a42, r42_0, r42_1, hsb, hlv, r42_2, hw, eqT, eqF, neT, neF, ltT, ltF, leT, leF, nltT, nltF, nleT, nleF, nneT, nneF, List.getElem?_cons_zero, List.getElem?_cons_succ, r42_4]
  -- the numbers
  have k1 : Kept h (Ev.newRow (Ev.newRow h [.int .i64 m.fr, .int .i64 m.to, .string m.b] 0 []) [.int .i64 ((ms.length : Int) + 1)] 1 []) [] := kept_row (rowKept _ _ _ _) _ _ _
  have hmb : hget (Ev.newRow (Ev.newRow h [.int .i64 m.fr, .int .i64 m.to, .string m.b] 0 []) [.int .i64 ((ms.length : Int) + 1)] 1 []) h.size = some (.cells [.int .i64 m.fr, .int .i64 m.to, .string m.b] 0 true []) := by simp (disch := first | omega | (simp only [newRow_size, Array.size_setIfInBounds, Array.size_push]; done) | (simp only [newRow_size, Array.size_setIfInBounds, Array.size_push]; omega)) []
  have z1 : (Ev.newRow (Ev.newRow h [.int .i64 m.fr, .int .i64 m.to, .string m.b] 0 []) [.int .i64 ((ms.length : Int) + 1)] 1 []).size = h.size + 2 := by simp
  simp (disch := first | omega | (simp only [newRow_size, Array.size_setIfInBounds, Array.size_push]; done) | (simp only [newRow_size, Array.size_setIfInBounds, Array.size_push]; omega)) [srcOf]
  generalize Ev.newRow (Ev.newRow h [.int .i64 m.fr, .int .i64 m.to, .string m.b] 0 []) [.int .i64 ((ms.length : Int) + 1)] 1 [] = g1 at k1 hmb z1 ⊢
  refine Ans.next ((s.ln.kept k1 (by simp)).appN (k := 1) (bytes := 8) ndn (fun c hc => by have := hon c hc; omega) (new := [.int .i64 ((ms.length : Int) + 1)]) rfl rfl (by omega)) ?_
  rintro vn' g2 ⟨on', csn', ln2, cn2, ndn', lt2, m2⟩
  have y2 := m2.1.1
  have ovn' := ln2.one
  simp only [oneCell] at ovn'
  have vvn' := ln2.vc
  simp only [vcells] at vvn'
  have h2b := (m2.1.get (by omega) sbn).trans ((k1.get hsbs (by simp)).trans hsb)
  have h2bs := lt_of_get h2b
  simp (disch := first | omega | (simp only [newRow_size, Array.size_setIfInBounds, Array.size_push]; done) | (simp only [newRow_size, Array.size_setIfInBounds, Array.size_push]; omega)) [h2b, ovn', vvn']
  have k3 := kept_at (g := g2) (b := sb) (.cells [vn', vm, vg] 0 true [])
  have h3b : hget (g2.setIfInBounds sb (.cells [vn', vm, vg] 0 true [])) sb = some (.cells [vn', vm, vg] 0 true []) := by simp [h2bs]
  have z3 : (g2.setIfInBounds sb (.cells [vn', vm, vg] 0 true [])).size = g2.size := by simp
  generalize g2.setIfInBounds sb (.cells [vn', vm, vg] 0 true []) = g3 at k3 h3b z3 ⊢
  have hon' : ∀ c ∈ on', c ∈ on ∨ h.size + 2 ≤ c := fun c hc => by
    rcases m2.2 c hc with q | q
    · exact .inl q
    · exact .inr (by omega)
  have hmb3 := (k3.get (by omega) (by simp; omega)).trans ((m2.1.get (by omega) (fun q => by have := hon _ q; omega)).trans hmb)
  have hmb3s := lt_of_get hmb3
  have h3bs := lt_of_get h3b
  -- the messages
  simp (disch := first | omega | (simp only [newRow_size, Array.size_setIfInBounds, Array.size_push]; done) | (simp only [newRow_size, Array.size_setIfInBounds, Array.size_push]; omega)) [d42_5, h3b, hmb3, dk_go, chks_nil, chks_cons, chkA_nil, chkA_cons, chk1_no, chk1_yes, chkV_some, hAt_eq, hOf_some, hOf_none, srcOf, eqT, eqF, neT, neF, ltT, ltF, leT, leF, nltT, nltF, nleT, nleF, nneT, nneF, List.getElem?_cons_zero, List.getElem?_cons_succ]
  have k4 := rowKept g3 [.int .i64 m.fr, .int .i64 m.to, .string m.b] 3 []
  have z4 : (Ev.newRow g3 [.int .i64 m.fr, .int .i64 m.to, .string m.b] 3 []).size = g3.size + 1 := by simp
  generalize Ev.newRow g3 [.int .i64 m.fr, .int .i64 m.to, .string m.b] 3 [] = g4 at k4 z4 ⊢
  have far : ∀ c, c < h.size → c ∉ on → c ≠ sb → hget g4 c = hget h c := fun c hc h1 h2 => (k4.get (by omega) (by simp)).trans ((k3.get (by omega) (by simp [h2])).trans ((m2.1.get (by omega) h1).trans (k1.get hc (by simp))))
  have lay4 : ∀ {w : Nat} {v : Value} {n : Nat} {own : List Nat} {cs : List Value}, LayO w h v n own cs → (∀ c ∈ own, c < h.size ∧ c ∉ on ∧ c ≠ sb) → LayO w g4 v n own cs := by
    intro w v n own cs l hx
    have kk : Kept h g4 (sb :: on) := ⟨by omega, fun c hc hn => by
      simp only [List.mem_cons, not_or] at hn
      exact far c hc hn.2 hn.1⟩
    exact l.kept kk (fun c hc q => by
      obtain ⟨a1, a2, a3⟩ := hx c hc
      rcases List.mem_cons.1 q with q | q
      · exact a3 q
      · exact a2 q)
  have lm4 := lay4 s.lm (fun c hc => ⟨hom c hc, fun q => dnm c q c hc rfl, fun q => sbm (q ▸ hc)⟩)
  have lg4 := lay4 s.lg (fun c hc => ⟨hog c hc, fun q => dxg c (by simp [q]) c hc rfl, fun q => sbg (q ▸ hc)⟩)
  have ln4 := ((ln2.kept k3 (fun c hc q => by
    simp at q; subst q
    rcases hon' _ hc with r | r
    · exact sbn r
    · omega)).kept k4 (by simp))
  refine Ans.nextE (lm4.appN (k := 1) (bytes := 32) ndm (fun c hc => by have := hom c hc; omega) (new := [.int .i64 m.fr, .int .i64 m.to, .string m.b]) rfl rfl (by omega)) ?_
  rintro vm' g5 ⟨om', csm', lm5, cm5, ndm', lt5, m5⟩
  have y5 := m5.1.1
  have ovm' := lm5.one
  simp only [oneCell] at ovm'
  have vvm' := lm5.vc
  simp only [vcells] at vvm'
  have svm : sameV vm vm = true := s.lm.sameV
  have h5b := (m5.1.get (by omega) sbm).trans ((k4.get h3bs (by simp)).trans h3b)
  have h5bs := lt_of_get h5b
  simp (disch := first | omega | (simp only [newRow_size, Array.size_setIfInBounds, Array.size_push]; done) | (simp only [newRow_size, Array.size_setIfInBounds, Array.size_push]; omega)) [h5b, ovm', vvm', dk_go, chks_nil, chks_cons, chkA_nil, chkA_cons, chk1_no, chk1_yes, chkV_some, hAt_eq, hOf_some, hOf_none, eqT, eqF, neT, neF, ltT, ltF, leT, leF, nltT, nltF, nleT, nleF, nneT, nneF, List.getElem?_cons_zero, List.getElem?_cons_succ, svm]
  have k6 := kept_at (g := g5) (b := sb) (.cells [vn', vm', vg] 0 true [])
  have h6b : hget (g5.setIfInBounds sb (.cells [vn', vm', vg] 0 true [])) sb = some (.cells [vn', vm', vg] 0 true []) := by simp [h5bs]
  have z6 : (g5.setIfInBounds sb (.cells [vn', vm', vg] 0 true [])).size = g5.size := by simp
  generalize g5.setIfInBounds sb (.cells [vn', vm', vg] 0 true []) = g6 at k6 h6b z6 ⊢
  have h6bs := lt_of_get h6b
  -- gone
  simp (disch := first | omega | (simp only [newRow_size, Array.size_setIfInBounds, Array.size_push]; done) | (simp only [newRow_size, Array.size_setIfInBounds, Array.size_push]; omega)) [r42_6, h6b, srcOf]
  have k7 := rowKept g6 [.bool false] 1 []
  have z7 : (Ev.newRow g6 [.bool false] 1 []).size = g6.size + 1 := by simp
  generalize Ev.newRow g6 [.bool false] 1 [] = g7 at k7 z7 ⊢
  have hom' : ∀ c ∈ om', c ∈ om ∨ g4.size ≤ c := m5.2
  have lm7 := (lm5.kept k6 (fun c hc q => by
    simp at q; subst q
    rcases hom' _ hc with r | r
    · exact sbm r
    · omega)).kept k7 (by simp)
  have lg7 := ((lg4.kept m5.1 (fun c hc q => dxg c (by simp [q]) c hc rfl)).kept k6 (fun c hc q => by simp at q; subst q; exact sbg hc)).kept k7 (by simp)
  have ln7 := ((ln4.kept m5.1 (fun c hc q => by
    rcases hon' c hc with r | r
    · exact dnm c r c q rfl
    · have := hom c q; omega)).kept k6 (fun c hc q => by
    simp at q; subst q
    rcases hon' _ hc with r | r
    · exact sbn r
    · omega)).kept k7 (by simp)
  refine Ans.next (lg7.appN (k := 1) (bytes := 1) ndg (fun c hc => by have := hog c hc; omega) (new := [.bool false]) rfl rfl (by omega)) ?_
  rintro vg' g8 ⟨og', csg', lg8, cg8, ndg', lt8, m8⟩
  have y8 := m8.1.1
  have ovg' := lg8.one
  simp only [oneCell] at ovg'
  have vvg' := lg8.vc
  simp only [vcells] at vvg'
  have hog' : ∀ c ∈ og', c ∈ og ∨ g7.size ≤ c := m8.2
  have h8b := (m8.1.get (by omega) sbg).trans ((k7.get h6bs (by simp)).trans h6b)
  have h8bs := lt_of_get h8b
  simp (disch := first | omega | (simp only [newRow_size, Array.size_setIfInBounds, Array.size_push]; done) | (simp only [newRow_size, Array.size_setIfInBounds, Array.size_push]; omega)) [h8b, ovg', vvg', r42_7]
  have k9 := kept_at (g := g8) (b := sb) (.cells [vn', vm', vg'] 0 true [])
  have h9b : hget (g8.setIfInBounds sb (.cells [vn', vm', vg'] 0 true [])) sb = some (.cells [vn', vm', vg'] 0 true []) := by simp [h8bs]
  have z9 : (g8.setIfInBounds sb (.cells [vn', vm', vg'] 0 true [])).size = g8.size := by simp
  generalize g8.setIfInBounds sb (.cells [vn', vm', vg'] 0 true []) = g9 at k9 h9b z9 ⊢
  have sbn' : sb ∉ on' := fun q => by rcases hon' _ q with r | r; exact sbn r; omega
  have sbm' : sb ∉ om' := fun q => by rcases hom' _ q with r | r; exact sbm r; omega
  have sbg' : sb ∉ og' := fun q => by rcases hog' _ q with r | r; exact sbg r; omega
  have ln9 := (ln7.kept m8.1 (fun c hc q => by
    rcases hon' c hc with r | r
    · exact dxg c (by simp [r]) c q rfl
    · have := hog c q; omega)).kept k9 (fun c hc q => by simp at q; subst q; exact sbn' hc)
  have lm9 := (lm7.kept m8.1 (fun c hc q => by
    rcases hom' c hc with r | r
    · exact dxg c (by simp [r]) c q rfl
    · have := hog c q; omega)).kept k9 (fun c hc q => by simp at q; subst q; exact sbm' hc)
  have lg9 := lg8.kept k9 (fun c hc q => by simp at q; subst q; exact sbg' hc)
  have hlen : (ms ++ [m]).length = ms.length + 1 := by simp
  subst hQ
  refine Ans.of ⟨rfl, sb :: (on' ++ om' ++ og'), ⟨vn', vm', vg', on', om', og', csn', csm', csg', ⟨h9b, by rw [hlen]; exact ln9, by rw [hlen]; exact lm9, by rw [hlen]; exact lg9, ?_, ?_, ?_, by simp [hgl], ?_, ?_, ?_⟩, rfl⟩, ⟨by omega, ?_⟩, ?_⟩
  · rw [hlen, numsV_snoc, ← s.cn]
    rw [Nat.mul_one, Nat.mul_one] at cn2
    exact cn2
  · rw [hlen, mcells_snoc, ← s.cm, hmc]
    exact cm5
  · rw [hlen, List.map_append, ← s.cg]
    rw [Nat.mul_one, Nat.mul_one] at cg8
    exact cg8
  · rw [List.nodup_append, List.nodup_append]
    refine ⟨⟨ndn', ndm', ?_⟩, ndg', ?_⟩
    · intro x hx y hy e
      subst e
      rcases hom' x hy with r | r
      · rcases hon' x hx with q | q
        · exact dnm x q x r rfl
        · have := hom x r; omega
      · have := lt2 x hx; omega
    · intro x hx y hy e
      subst e
      rcases hog' x hy with r | r
      · rcases List.mem_append.1 hx with hx | hx
        · rcases hon' x hx with q | q
          · exact dxg x (by simp [q]) x r rfl
          · have := hog x r; omega
        · rcases hom' x hx with q | q
          · exact dxg x (by simp [q]) x r rfl
          · have := hog x r; omega
      · rcases List.mem_append.1 hx with hx | hx
        · have := lt2 x hx; omega
        · have := lt5 x hx; omega
  · intro x hx
    rw [List.mem_append, List.mem_append] at hx
    rcases hx with (hx | hx) | hx
    · have := lt2 x hx; omega
    · have := lt5 x hx; omega
    · have := lt8 x hx; omega
  · intro q
    rw [List.mem_append, List.mem_append] at q
    rcases q with (q | q) | q
    · exact sbn' q
    · exact sbm' q
    · exact sbg' q
  · intro x hx hn
    simp only [List.mem_cons, List.mem_append, not_or] at hn
    obtain ⟨n0, ⟨n1, n2⟩, n3⟩ := hn
    exact (k9.get (by omega) (by simp [n0])).trans ((m8.1.get (by omega) n3).trans ((k7.get (by omega) (by simp)).trans ((k6.get (by omega) (by simp [n0])).trans ((m5.1.get (by omega) n2).trans (far x hx n1 n0)))))
  · intro x hx
    simp only [List.mem_cons, List.mem_append] at hx ⊢
    rcases hx with rfl | (hx | hx) | hx
    · exact .inl (.inl rfl)
    · rcases hon' x hx with r | r
      · exact .inl (.inr (.inl (.inl r)))
      · exact .inr (by omega)
    · rcases hom' x hx with r | r
      · exact .inl (.inr (.inl (.inr r)))
      · exact .inr (by omega)
    · rcases hog' x hx with r | r
      · exact .inl (.inr (.inr r))
      · exact .inr (by omega)

end Go.Proofs.Ytmenfnapbggglaa

/- LineHonest: the state; a step that sends. -/
set_option linter.unusedSimpArgs false
set_option linter.unusedVariables false
namespace Go.Proofs.Ytmenfnapbggglaa
open Go.Ev

def hLoop : ACode := (.seq (.region r29_7 [0, 7, 8, 9]) (.block 1 (.loop [0, 7, 8, 9] l29_13)))
def hSend : ACode := (.seq (.region r29_3 [0, 1, 7]) (.seq (.region r29_4 [0, 7, 8]) (.seq (.seq (.region r29_5 [0, 7, 8, 31]) (.cond (.tmp 31) (.seq (.region r29_6 [6]) .ret) .skip)) hLoop)))
def hTake : ACode := (.seq (.region r29_15 [0, 5, 11, 12]) (.seq (.region r29_16 [0, 11, 12, 13]) (.seq (.seq (.region r29_17 [0, 11, 13, 80]) (.cond (.tmp 80) (.seq (.region r29_18 [6]) .ret) .skip)) (.seq (.seq (.regionD d29_19 [] [0, 13, 119]) (.cond (.tmp 119) (.seq (.region r29_20 [6]) .ret) .skip)) (.region r29_21 [])))))
def hDbl : ACode := (.seq (.region r29_23 [0, 5, 14, 15]) (.seq (.region r29_24 [0, 14, 15, 16]) (.seq (.seq (.region r29_25 [0, 14, 16, 141]) (.cond (.tmp 141) (.seq (.region r29_26 [6]) .ret) .skip)) (.seq (.seq (.region r29_27 [0, 14, 16, 172]) (.cond (.tmp 172) (.seq (.region r29_28 [6]) .ret) .skip)) (.seq (.region r29_29 [6]) .ret)))))
def hSpl : ACode := (.region r29_31 [])
theorem a29_cut : a29.body = (.seq (.region r29_0 [0, 1, 5]) (.seq (.seq (.region r29_1 [0, 1, 5, 18]) (.block 0 (.seq (.region r29_2 [0, 1, 5, 18, 19]) (.cond (.tmp 19) hSend (.seq (.region r29_14 [0, 1, 5, 18, 65]) (.cond (.tmp 65) hTake (.seq (.region r29_22 [0, 1, 5, 18, 126]) (.cond (.tmp 126) hDbl (.seq (.region r29_30 [1, 5, 183]) (.cond (.tmp 183) hSpl .skip)))))))))) (.seq (.region r29_32 [6]) .ret))) := rfl

structure HoS (h : H) (lv : Value) (es : List Ent) (fl : Flight) (last : Int) (W : List Nat) (sb : Nat) (O : List Nat) : Prop where
  ls : LS h lv fl last false W
  gd : Gd fl last
  bk : Bk es fl last
  sn : SentS h sb (es.map (·.m)) (es.map (·.gone)) O
  ow : ∀ c ∈ O, c ∉ W

theorem HoS.kept {h h' : H} {lv : Value} {es : List Ent} {fl : Flight} {last : Int} {W : List Nat} {sb : Nat} {O L : List Nat} (s : HoS h lv es fl last W sb O) (k : Kept h h' L) (hL : ∀ c ∈ L, c ∉ W ∧ c ∉ O) : HoS h' lv es fl last W sb O :=
  ⟨s.ls.kept k (fun c hc q => (hL c q).1 hc), s.gd, s.bk, s.sn.kept k (fun c hc q => (hL c q).2 hc), s.ow⟩

/-- What a step leaves. -/
def StepD (h : H) (lv : Value) (last : Int) (W : List Nat) (sb : Nat) (O : List Nat) (h' : H) : Prop :=
  ∃ es' fl' last' W' O', HoS h' lv es' fl' last' W' sb O' ∧ Kept h h' (W ++ O) ∧ (∀ c ∈ W', c ∈ W ∨ h.size ≤ c) ∧ (∀ c ∈ O', c ∈ O ∨ h.size ≤ c) ∧ last' ≤ last + 300

theorem Bld.msgs {B : Nat} {h : H} {v : Value} {ms : List Msg} (s : Bld (fun c => B ≤ c) 3 MsgC h v ms) : MsgsAt h v ms ∧ ∀ x o n c, v = .slice (some ⟨x, o, none⟩) n c → B ≤ x := by
  have hs := mcells_read Msg.cells (fun _ _ q => q) (fun _ => rfl) s
  rcases s with ⟨rfl, rfl⟩ | ⟨b, cs, an, rfl, hk, hb, hl, hi⟩
  · exact ⟨.inl ⟨rfl, rfl⟩, fun x o n c e => by cases e⟩
  · refine ⟨.inr ⟨b, 0, ms.length, cs, 3, true, an, rfl, hb, by omega, ?_⟩, fun x o n c e => ?_⟩
    · rw [List.drop_zero, List.take_of_length_le (by omega)]
      have hb' : h[b]? = some (.cells cs 3 true an) := hb
      by_cases h0 : ms.length = 0
      · have : ms = [] := List.eq_nil_of_length_eq_zero h0
        subst this
        simp at hl
        simp [hl, mcells]
      · simp only [srcOf, if_neg h0, rd, hb', Nat.zero_add, hl, Nat.le_refl, if_true, List.drop_zero, Option.map_some] at hs
        injection hs with hs
        injection hs with _ hs
        rw [List.take_of_length_le (by omega)] at hs
        rw [hs, mcells_flat]
    · injection e with e1 _ _
      injection e1 with e1
      injection e1 with e1 _ _
      subst e1
      exact hk

theorem map_m_len (es : List Ent) : (es.map (·.m)).length = es.length := by simp
theorem cnt_live (es : List Ent) : cntB (es.map (·.gone)) = liveN es := by
  unfold cntB liveN
  rw [flOf_len, List.filter_map, List.length_map]
  rfl

set_option maxHeartbeats 2000000 in
theorem hLoop_spec {F : Nat} (hF : 60001 ≤ F) {g : H} {sb : Nat} {es : List Ent} {fl : Flight} {last : Int} {O : List Nat} {okM okI : Nat → Prop} {um un : Value} {ms : List Msg}
    (bk : Bk es fl last) (hlast : last ≤ 36000) (sn : SentS g sb (es.map (·.m)) (es.map (·.gone)) O) (sm : SlR okM 3 MsgC g um ms) (si : SlR okI 1 IntC g un (sendR false fl last ms).2.2) (hms : ms.length ≤ 300) (hoM : ∀ c ∈ O, ¬ okM c) (hoI : ∀ c ∈ O, ¬ okI c)
    {kn kr : K} {ke : Nat → K} {Q : Value → H → Prop}
    (hk : ∀ g2 O2 (e : Env), SentS g2 sb ((sendE es ms).map (·.m)) ((sendE es ms).map (·.gone)) O2 → Moves g g2 O O2 →
      Ans (kn ((0, .pointer (some ⟨sb, 0, none⟩)) :: (7, um) :: (8, un) :: e) g2 []) Q) :
    Ans (evC F (cf F) hLoop kn ke kr [(0, .pointer (some ⟨sb, 0, none⟩)), (7, um), (8, un)] g []) Q := by
  have hns := sendR_ns false ms fl last
  have hln := si.len
  have hlm := sm.len
  rw [hns] at hln
  have hsl : ∀ i, (sendE es (ms.take i)).length ≤ es.length + i := by
    intro i
    have h1 := (bk.send (ms.take i)).last
    have h2 := (sendR_last false (ms.take i) fl last).2
    have h3 := bk.last
    have h4 : (ms.take i).length ≤ i := by rw [List.length_take]; omega
    omega
  have hel : (es.length : Int) ≤ 36000 := by rw [← bk.last]; exact hlast
  simp (disch := first | omega | (simp only [newRow_size, Array.size_setIfInBounds, Array.size_push]; done) | (simp only [newRow_size, Array.size_setIfInBounds, Array.size_push]; omega)) [hLoop, r29_7]
  refine loop_rule (fun mm e g' => ∃ (k : Nat) (O' : List Nat), mm = ms.length - k ∧ k ≤ ms.length ∧ e = [(0, .pointer (some ⟨sb, 0, none⟩)), (7, um), (8, un), (9, .int .i64 k)] ∧ SentS g' sb ((sendE es (ms.take k)).map (·.m)) ((sendE es (ms.take k)).map (·.gone)) O' ∧ Moves g g' O O') ?_ _ ms.length _ _ (by omega) ⟨0, O, by omega, by omega, rfl, sn, Moves.refl _ _⟩
  rintro mm e g' again ⟨k, O', rfl, hkl, rfl, sn', mv⟩ ih
  have hw : IntKind.i64.wrap ((k : Int) + 1) = ((k + 1 : Nat) : Int) := by rw [wrap_id (by omega) (by omega)]; rfl
  by_cases hlt : k < ms.length
  · obtain ⟨m, hm⟩ : ∃ m, ms[k]? = some m := ⟨_, List.getElem?_eq_getElem hlt⟩
    have hn := send_at bk hm
    have smg := SlM.imp sm (ok' := okM) (fun _ _ q => q) (keep_of mv.1.c hoM)
    have sig := SlI.imp si (ok' := okI) (fun _ _ q => q) (keep_of mv.1.c hoI)
    obtain ⟨bm, om, cm, csm, esm, lvm, anm, rfl, hkm, hgm, hlem, hpm⟩ := smg.at' hm
    have hpm' : (csm.drop (om + k * 3)).take 3 = [.int .i64 m.fr, .int .i64 m.to, .string m.b] := hpm
    obtain ⟨bi, oi, ci, csi, esi, lvi, ani, rfl, hki, hgi, hlei, hpi⟩ := sig.at' hn
    have hpi' : (csi.drop (oi + k * 1)).take 1 = [.int .i64 (if 256 ≤ liveN (sendE es (ms.take k)) then -1 else ((sendE es (ms.take k)).length : Int) + 1)] := hpi
    rw [Nat.mul_one] at hpi' hlei
    rw [hns] at hln ⊢
    have hgms := lt_of_get hgm
    have hgis := lt_of_get hgi
    have hEl := hsl k
    generalize hE : sendE es (ms.take k) = E at sn' hn hpi' hEl
    have hE1 : sendE es (ms.take (k + 1)) = putE E m := by rw [take_snoc hm, sendE_snoc, hE]
    have hlv := cnt_live E
    have hkc : (k : Int) < (ms.length : Int) := by omega
    simp (disch := first | omega | (simp only [newRow_size, Array.size_setIfInBounds, Array.size_push]; done) | (simp only [newRow_size, Array.size_setIfInBounds, Array.size_push]; omega)) [l29_13, r29_8, hkc, eqT, eqF, neT, neF, ltT, ltF, leT, leF, nltT, nltF, nleT, nleF, nneT, nneF, List.getElem?_cons_zero, List.getElem?_cons_succ, r29_9]
    refine Ans.next (live_spec (F := F) (by omega) sn' (by rw [map_m_len]; omega)) ?_
    rintro u g1 ⟨rfl, rfl⟩
    rw [hlv]
    by_cases hf : 256 ≤ liveN E
    · have hf' : (256 : Int) ≤ (liveN E : Int) := by omega
      rw [if_pos hf] at hpi'
      have hp : putE E m = E := by unfold putE; rw [if_pos hf]
      simp (disch := first | omega | (simp only [newRow_size, Array.size_setIfInBounds, Array.size_push]; done) | (simp only [newRow_size, Array.size_setIfInBounds, Array.size_push]; omega)) [hf', eqT, eqF, neT, neF, ltT, ltF, leT, leF, nltT, nltF, nleT, nleF, nneT, nneF, List.getElem?_cons_zero, List.getElem?_cons_succ, d29_10, dk_go, chks_nil, chks_cons, chkA_nil, chkA_cons, chk1_no, chk1_yes, chkV_some, hAt_eq, hOf_some, hOf_none, hlt, hgi, hpi', hlei, nilEq, r29_12, hw]
      refine ih (ms.length - (k + 1)) _ _ (by omega) ⟨k + 1, O', rfl, by omega, by simp only [hns]; rfl, ?_, mv⟩
      rw [hE1, hp]
      exact sn'
    · have hf' : ¬ (256 : Int) ≤ (liveN E : Int) := by omega
      rw [if_neg hf] at hpi'
      have hp : putE E m = E ++ [⟨(m, false), m, false⟩] := by unfold putE; rw [if_neg hf]
      have hne : ¬ ((E.length : Int) + 1 = -1) := by omega
      simp (disch := first | omega | (simp only [newRow_size, Array.size_setIfInBounds, Array.size_push]; done) | (simp only [newRow_size, Array.size_setIfInBounds, Array.size_push]; omega)) [hf', eqT, eqF, neT, neF, ltT, ltF, leT, leF, nltT, nltF, nleT, nleF, nneT, nneF, List.getElem?_cons_zero, List.getElem?_cons_succ, d29_10, dk_go, chks_nil, chks_cons, chkA_nil, chkA_cons, chk1_no, chk1_yes, chkV_some, hAt_eq, hOf_some, hOf_none, hlt, hgi, hpi', hlei, hgm, hpm', hlem, nilEq, hne]
      have hps := putS_spec (F := F) (by omega) sn' (by rw [map_m_len]; omega) m
      rw [map_m_len] at hps
      refine Ans.nextE hps ?_
      rintro u g2 ⟨rfl, O2, sn2, mv2⟩
      simp (disch := first | omega | (simp only [newRow_size, Array.size_setIfInBounds, Array.size_push]; done) | (simp only [newRow_size, Array.size_setIfInBounds, Array.size_push]; omega)) [eqT, eqF, neT, neF, ltT, ltF, leT, leF, nltT, nltF, nleT, nleF, nneT, nneF, List.getElem?_cons_zero, List.getElem?_cons_succ, r29_12, hw]
      refine ih (ms.length - (k + 1)) _ _ (by omega) ⟨k + 1, O2, rfl, by omega, by simp only [hns]; rfl, ?_, mv.trans mv2⟩
      rw [hE1, hp]
      simpa using sn2
  · have hkk : k = ms.length := by omega
    subst hkk
    rw [List.take_length] at sn'
    simp (disch := first | omega | (simp only [newRow_size, Array.size_setIfInBounds, Array.size_push]; done) | (simp only [newRow_size, Array.size_setIfInBounds, Array.size_push]; omega)) [l29_13, r29_8, hln, eqT, eqF, neT, neF, ltT, ltF, leT, leF, nltT, nltF, nleT, nleF, nneT, nneF, List.getElem?_cons_zero, List.getElem?_cons_succ]
    exact hk _ _ _ sn' mv

set_option maxHeartbeats 2000000 in
theorem hSend_spec {F : Nat} (hF : 60001 ≤ F) {OL : Nat → Prop} {g : H} {lv : Value} {es : List Ent} {fl : Flight} {last : Int} {W : List Nat} {sb : Nat} {O : List Nat} (s : HoS g lv es fl last W sb O) (hlast : last ≤ 36000) {xb : Nat} {kd on n at' turn : Int} {vm t18 t19 : Value} {l : List Msg}
    (hxb : hget g xb = some (.cells [.int .i64 kd, .int .i64 on, vm, .int .i64 n, .int .i64 at', .int .i64 turn] 0 true [])) (sl : SlR OL 3 MsgC g vm l)
    {kn kr : K} {ke : Nat → K} {Q : Value → H → Prop}
    (hk : ∀ g' (e : Env), StepD g lv last W sb O g' → Ans (kn e g' []) Q) :
    Ans (evC F (cf F) hSend kn ke kr [(0, .pointer (some ⟨sb, 0, none⟩)), (1, lv), (5, .pointer (some ⟨xb, 0, none⟩)), (18, t18), (19, t19)] g []) Q := by
  have hxbs := lt_of_get hxb
  have hpos := s.gd.w.pos
  have hcl := cut_le l
  have om := sl.one
  simp only [oneCell] at om
  simp (disch := first | omega | (simp only [newRow_size, Array.size_setIfInBounds, Array.size_push]; done) | (simp only [newRow_size, Array.size_setIfInBounds, Array.size_push]; omega)) [hSend, r29_3, hxb]
  refine Ans.next (cutS_spec (F := F) (by omega) sl) ?_
  rintro u g1 ⟨bm, k1⟩
  have y1 := k1.1
  have s1 := s.kept k1 (by simp)
  have hWl := s.ls.lt
  have hOl := s.sn.lt
  obtain ⟨mv1, hB⟩ := Bld.msgs bm
  simp (disch := first | omega | (simp only [newRow_size, Array.size_setIfInBounds, Array.size_push]; done) | (simp only [newRow_size, Array.size_setIfInBounds, Array.size_push]; omega)) [r29_4]
  refine Ans.next (s1.ls.send (F := F) (by omega) s.gd.w (by omega) mv1 (by omega) (fun x o n c e q => by have := hB x o n c e; have := hWl x q; omega)) ?_
  rintro un g2 ⟨si, W', ls2, m2⟩
  have y2 := m2.1.1
  have hns := sendR_ns false (cut l) fl last
  have hl1 := bm.sl.len
  have hl2 := si.len
  rw [hns] at hl2
  simp (disch := first | omega | (simp only [newRow_size, Array.size_setIfInBounds, Array.size_push]; done) | (simp only [newRow_size, Array.size_setIfInBounds, Array.size_push]; omega)) [r29_5, hl1, hl2, eqT, eqF, neT, neF, ltT, ltF, leT, leF, nltT, nltF, nleT, nleF, nneT, nneF, List.getElem?_cons_zero, List.getElem?_cons_succ]
  have sn2 := s1.sn.kept m2.1 (fun c hc q => s.ow c hc q)
  have bm2 : SlR (fun x => g.size ≤ x ∧ x < g1.size) 3 MsgC g2 u (cut l) := SlM.imp bm.sl (fun x hx q => ⟨q, hx⟩) (keep_of m2.1.c (fun c hc q => by have := hWl c hc; omega))
  have si2 : SlR (fun x => g1.size ≤ x ∧ x < g2.size) 1 IntC g2 un (sendR false fl last (cut l)).2.2 := SlI.imp si (fun x hx q => ⟨q, hx⟩) (fun _ _ _ e => e)
  refine hLoop_spec (F := F) hF s.bk hlast sn2 bm2 si2 hcl (fun c hc q => by have := hOl c hc; omega) (fun c hc q => by have := hOl c hc; omega) ?_
  intro g3 O3 e sn3 m3
  have hlr := sendR_last false (cut l) fl last
  have hW' : ∀ c ∈ W', c ∈ W ∨ g.size ≤ c := fun c hc => by
    rcases m2.2 c hc with q | q
    · exact .inl q
    · exact .inr (by omega)
  have hO3 : ∀ c ∈ O3, c ∈ O ∨ g.size ≤ c := fun c hc => by
    rcases m3.2 c hc with q | q
    · exact .inl q
    · exact .inr (by omega)
  have hOW' : ∀ c ∈ O, c ∉ W' := fun c hc q => by
    rcases m2.2 c q with r | r
    · exact s.ow c hc r
    · have := hOl c hc; omega
  refine hk g3 _ ⟨sendE es (cut l), _, _, W', O3, ⟨ls2.kept m3.1 (fun c hc q => hOW' c q hc), s.gd.send false _ (cut_slen _), s.bk.send _, sn3, ?_⟩, ⟨by have := m3.1.1; omega, fun c hc hn => ?_⟩, hW', hO3, by omega⟩
  · intro c hc q
    rcases m3.2 c hc with r | r
    · exact hOW' c r q
    · have := ls2.lt c q; omega
  · rw [List.mem_append, not_or] at hn
    exact (m3.1.get (by omega) hn.2).trans ((m2.1.get (by omega) hn.1).trans (k1.get hc (by simp)))

end Go.Proofs.Ytmenfnapbggglaa

/- LineHonest: a step that takes, doubles, spoils; the step. -/
set_option linter.unusedSimpArgs false
set_option linter.unusedVariables false
namespace Go.Proofs.Ytmenfnapbggglaa
open Go.Ev

theorem nearK {F : Nat} (hF : 1002 ≤ F) {p : Parcel} {m : Msg} (hn : Near p m) (hs : slen p.1.b ≤ 600) (h : H) :
    Ans (cf F 22 [.agg ⟨[.int .i64 p.1.fr, .int .i64 p.1.to, .string p.1.b]⟩, .agg ⟨[.int .i64 m.fr, .int .i64 m.to, .string m.b]⟩] h) fun r h' => r = .bool true ∧ Kept h h' [] := by
  obtain ⟨F, rfl⟩ : ∃ G, F = G + 1 + 1 := ⟨F - 2, by omega⟩
  obtain ⟨h1, h2, h3, h4, _⟩ := hn
  refine (near_spec F h p.1 m h1 h2 h3 (by omega) (by omega) h4).mono ?_
  rintro v h' ⟨e, k⟩
  exact ⟨e, k.kept (by simp)⟩

theorem findN_hit {len i : Nat} {n : Int} (hn : n = 1 + i) (hi : i < len) : findN len n = i := by
  unfold findN
  rw [if_pos (by omega)]
  omega
theorem findN_out {len : Nat} {n : Int} (h : ¬ (1 ≤ n ∧ n ≤ len)) : findN len n = -1 := by
  unfold findN
  rw [if_neg h]

theorem map_set_get {α β : Type} (f : α → β) {l : List α} {i : Nat} {x y : α} (hx : l[i]? = some x) (hf : f y = f x) : (l.set i y).map f = l.map f := by
  rw [List.map_set, hf]
  apply List.ext_getElem?
  intro k
  by_cases hk : i = k
  · subst hk
    rw [List.getElem?_set_self (by simpa using (List.getElem?_eq_some_iff.1 hx).1), List.getElem?_map, hx]; rfl
  · rw [List.getElem?_set_ne hk]

theorem SentA.mark {h h' : H} {sb : Nat} {ms : List Msg} {gs : List Bool} {vn vm vg : Value} {on om og : List Nat} {csn csm csg : List Value} (s : SentA h sb ms gs vn vm vg on om og csn csm csg) {i b : Nat} {cs' : List Value} (hi : i < ms.length) (hb : b ∈ og) (l : LayO 1 h' vg ms.length [b] cs') (hc : cs' = csg.take i ++ .bool true :: csg.drop (i + 1)) (k : Kept h h' og) :
    SentS h' sb ms (gs.set i true) (sb :: (on ++ om ++ [b])) ∧ Moves h h' (sb :: (on ++ om ++ og)) (sb :: (on ++ om ++ [b])) := by
  have nds := s.nd
  have hnd := s.nd
  rw [List.nodup_append] at hnd
  obtain ⟨h1, h2, h3⟩ := hnd
  have hsub : ∀ c ∈ sb :: (on ++ om ++ [b]), c ∈ sb :: (on ++ om ++ og) := by
    intro c hc
    simp only [List.mem_cons, List.mem_append, List.not_mem_nil, or_false] at hc ⊢
    rcases hc with q | q | rfl
    · exact .inl q
    · exact .inr (.inl q)
    · exact .inr (.inr hb)
  refine ⟨⟨vn, vm, vg, on, om, [b], csn, csm, cs', ⟨(k.get (lt_of_get s.at') (fun q => s.sbn (by simp [q]))).trans s.at', s.ln.kept k (fun c hc q => h3 c (by simp [hc]) c q rfl), s.lm.kept k (fun c hc q => h3 c (by simp [hc]) c q rfl), l, s.cn, s.cm, ?_, by simpa using s.gl, ?_, ?_, fun q => s.sbn (by
      have := hsub sb
      simp only [List.mem_append, List.mem_cons, List.not_mem_nil, or_false] at q ⊢
      rcases q with q | rfl
      · exact .inl q
      · exact .inr hb)⟩, rfl⟩, ⟨k.weak (fun c hc => by simp [hc]), fun c hc => .inl (hsub c hc)⟩⟩
  · have hcs := s.cg
    have hgl := s.gl
    have hlc : ms.length ≤ csg.length := by
      have := congrArg List.length hcs
      rw [List.length_take, List.length_map] at this
      omega
    rw [hc, List.map_set, ← hcs]
    apply List.ext_getElem?
    intro k
    by_cases hk : k < ms.length
    · rw [List.getElem?_take_of_lt hk]
      by_cases hki : i = k
      · subst hki
        rw [List.getElem?_set_self (by rw [List.length_take]; omega), List.getElem?_append_right (by rw [List.length_take]; omega), List.length_take, Nat.min_eq_left (by omega), Nat.sub_self]
        rfl
      · rw [List.getElem?_set_ne hki, List.getElem?_take_of_lt hk]
        rcases Nat.lt_or_ge k i with hlt | hge
        · rw [List.getElem?_append_left (by rw [List.length_take]; omega), List.getElem?_take_of_lt hlt]
        · rw [List.getElem?_append_right (by rw [List.length_take]; omega), List.length_take, Nat.min_eq_left (by omega), show k - i = (k - (i + 1)) + 1 by omega, List.getElem?_cons_succ, List.getElem?_drop]
          congr 1
          omega
    · rw [List.getElem?_eq_none (by rw [List.length_take]; omega), List.getElem?_eq_none (by rw [List.length_set, List.length_take]; omega)]
  · rw [List.nodup_append]
    exact ⟨h1, by simp, fun x hx y hy e => h3 x hx y (by simp at hy; subst hy; exact hb) e⟩
  · intro c hc
    refine Nat.lt_of_lt_of_le (s.lt c ?_) k.1
    simp only [List.mem_append, List.mem_cons, List.not_mem_nil, or_false] at hc ⊢
    rcases hc with q | rfl
    · exact .inl q
    · exact .inr hb

set_option maxHeartbeats 2000000 in
theorem hTake_spec {F : Nat} (hF : 60001 ≤ F) {g : H} {lv : Value} {es : List Ent} {fl : Flight} {last : Int} {W : List Nat} {sb : Nat} {O : List Nat} (s : HoS g lv es fl last W sb O) (hlast : last ≤ 36000) {xb : Nat} {kd on n at' turn : Int} {vm t18 t65 : Value}
    (hxb : hget g xb = some (.cells [.int .i64 kd, .int .i64 on, vm, .int .i64 n, .int .i64 at', .int .i64 turn] 0 true [])) (hxW : xb ∉ W)
    {kn kr : K} {ke : Nat → K} {Q : Value → H → Prop}
    (hk : ∀ g' (e : Env), StepD g lv last W sb O g' → Ans (kn e g' []) Q)
    (hr : ∀ g', StepD g lv last W sb O g' → Ans (kr [(6, .bool true)] g' []) Q) :
    Ans (evC F (cf F) hTake kn ke kr [(0, .pointer (some ⟨sb, 0, none⟩)), (1, lv), (5, .pointer (some ⟨xb, 0, none⟩)), (18, t18), (65, t65)] g []) Q := by
  have hxbs := lt_of_get hxb
  have hpos := s.gd.w.pos
  have hel : (es.length : Int) ≤ 36000 := by rw [← s.bk.last]; exact hlast
  have hWl := s.ls.lt
  have hOl := s.sn.lt
  simp (disch := first | omega | (simp only [newRow_size, Array.size_setIfInBounds, Array.size_push]; done) | (simp only [newRow_size, Array.size_setIfInBounds, Array.size_push]; omega)) [hTake, r29_15, hxb]
  refine Ans.next (s.ls.take (F := F) (by omega) s.gd.w n) ?_
  rintro v g1 ⟨rfl, ls1, k1⟩
  have y1 := k1.1
  have sn1 := s.sn.kept k1 (fun c hc q => s.ow c hc q)
  have hxb1 := (k1.get hxbs hxW).trans hxb
  generalize hM : (lookM n fl).1 = M
  generalize hE : (lookM n fl).2 = Ee
  have hMv : M.val = .agg ⟨[.int .i64 M.fr, .int .i64 M.to, .string M.b]⟩ := rfl
  rw [hMv]
  simp (disch := first | omega | (simp only [newRow_size, Array.size_setIfInBounds, Array.size_push]; done) | (simp only [newRow_size, Array.size_setIfInBounds, Array.size_push]; omega)) [eqT, eqF, neT, neF, ltT, ltF, leT, leF, nltT, nltF, nleT, nleF, nneT, nneF, List.getElem?_cons_zero, List.getElem?_cons_succ]
  generalize hmm : [Value.int .i64 M.fr, .int .i64 M.to, .string M.b] = mm
  have m1 : hget (Ev.newRow g1 mm 0 []) g1.size = some (.cells mm 0 true []) := by simp (disch := first | omega | (simp only [newRow_size, Array.size_setIfInBounds, Array.size_push]; done) | (simp only [newRow_size, Array.size_setIfInBounds, Array.size_push]; omega)) []
  have k2 := rowKept g1 mm 0 []
  have z2 : (Ev.newRow g1 mm 0 []).size = g1.size + 1 := by simp
  generalize Ev.newRow g1 mm 0 [] = g2 at m1 k2 z2 ⊢
  subst hmm
  have m1s := lt_of_get m1
  have sn2 := sn1.kept k2 (by simp)
  have ls2 := ls1.kept k2 (by simp)
  have hxb2 := (k2.get (by omega) (by simp)).trans hxb1
  have k02 : Kept g g2 (W ++ O) := (k1.weak (fun c hc => List.mem_append_left _ hc)).trans (k2.weak (by simp))
  simp (disch := first | omega | (simp only [newRow_size, Array.size_setIfInBounds, Array.size_push]; done) | (simp only [newRow_size, Array.size_setIfInBounds, Array.size_push]; omega)) [r29_16, hxb2]
  refine Ans.next (findS_spec (F := F) (by omega) sn2 (by rw [map_m_len]; omega) n) ?_
  rintro u g3 ⟨rfl, rfl⟩
  rw [map_m_len]
  obtain ⟨vn, vms, vg, onn, omm, ogg, csn, csm, csg, sa, hO⟩ := id sn2
  have hsb := sa.at'
  have hsbs := lt_of_get hsb
  have hlen := map_m_len es
  cases hlk : lk n fl 0 with
  | none =>
    have hE' : Ee = 160 := by rw [← hE]; simp [lookM, hlk]
    have hMz : M = Msg.zero := by rw [← hM]; simp [lookM, hlk]
    have ht : takeR n fl = fl := by unfold takeR; rw [hlk]
    rw [ht] at ls2
    subst hE' hMz
    have done : StepD g lv last W sb O g3 := ⟨es, fl, last, W, O, ⟨ls2, s.gd, s.bk, sn2, s.ow⟩, k02, fun c hc => .inl hc, fun c hc => .inl hc, by omega⟩
    have he := ba_self (ByteArray.mk #[])
    have hmz : [Value.int .i64 Msg.zero.fr, .int .i64 Msg.zero.to, .string Msg.zero.b] = [.int .i64 0, .int .i64 0, .string ⟨#[]⟩] := rfl
    rw [hmz] at m1
    by_cases hin : 1 ≤ n ∧ n ≤ es.length
    · obtain ⟨i, hi⟩ : ∃ i : Nat, n = 1 + i := ⟨(n - 1).toNat, by omega⟩
      have hil : i < es.length := by omega
      obtain ⟨e, hee⟩ : ∃ e, es[i]? = some e := ⟨_, List.getElem?_eq_getElem hil⟩
      have hg := s.bk.miss hlk i e hi hee
      rw [findN_hit hi hil]
      have hfn : ¬ ((i : Int) < 0) := by omega
      obtain ⟨bb, an, c, e1, rfl, hgb, ha, hle⟩ := LayO_at1 (i := i) sa.lg sa.cg (x := .bool true) (by rw [List.getElem?_map, List.getElem?_map, hee]; simp [hg]) (by rw [hlen]; exact hil)
      have hgbs := lt_of_get hgb
      rw [hlen] at hsb
      simp (disch := first | omega | (simp only [newRow_size, Array.size_setIfInBounds, Array.size_push]; done) | (simp only [newRow_size, Array.size_setIfInBounds, Array.size_push]; omega)) [r29_17, numE (F := F) (by omega), eqT, eqF, neT, neF, ltT, ltF, leT, leF, nltT, nltF, nleT, nleF, nneT, nneF, List.getElem?_cons_zero, List.getElem?_cons_succ, r29_18, hfn, hsb, hil, hgb, ha, hle, m1, he]
      exact hr _ done
    · rw [findN_out hin]
      simp (disch := first | omega | (simp only [newRow_size, Array.size_setIfInBounds, Array.size_push]; done) | (simp only [newRow_size, Array.size_setIfInBounds, Array.size_push]; omega)) [r29_17, numE (F := F) (by omega), eqT, eqF, neT, neF, ltT, ltF, leT, leF, nltT, nltF, nleT, nleF, nneT, nneF, List.getElem?_cons_zero, List.getElem?_cons_succ, r29_18, m1, he]
      exact hr _ done
  | some jp =>
    obtain ⟨j, p⟩ := jp
    have hE' : Ee = 0 := by rw [← hE]; simp [lookM, hlk]
    have hMz : M = p.1 := by rw [← hM]; simp [lookM, hlk]
    subst hE' hMz
    obtain ⟨i, e, hi, hee, hg, hp, bk'⟩ := s.bk.take hlk
    have hil := (List.getElem?_eq_some_iff.1 hee).1
    rw [findN_hit hi hil]
    have hfn : ¬ ((i : Int) < 0) := by omega
    obtain ⟨bb, an, c, e1, e1v, hgb, ha, hle⟩ := LayO_at1 (i := i) sa.lg sa.cg (x := .bool false) (by rw [List.getElem?_map, List.getElem?_map, hee]; simp [hg]) (by rw [hlen]; exact hil)
    obtain ⟨bm, anm, cm, e3, e3v, hgm, hpm, hlem⟩ := LayO_at3 (i := i) (m := e.m) sa.lm sa.cm (by rw [List.getElem?_map, hee]; rfl) (by rw [hlen]; exact hil)
    have hgbs := lt_of_get hgb
    have hgms := lt_of_get hgm
    have hsb' := hsb
    rw [e1v, e3v, hlen] at hsb'
    have hnear := s.bk.near e (List.mem_of_getElem? hee) hg
    rw [hp] at hnear
    have hps := s.gd.sl _ (List.mem_of_getElem? (lk_get hlk).2)
    simp (disch := first | omega | (simp only [newRow_size, Array.size_setIfInBounds, Array.size_push]; done) | (simp only [newRow_size, Array.size_setIfInBounds, Array.size_push]; omega)) [r29_17, numE (F := F) (by omega), eqT, eqF, neT, neF, ltT, ltF, leT, leF, nltT, nltF, nleT, nleF, nneT, nneF, List.getElem?_cons_zero, List.getElem?_cons_succ, d29_19, dk_go, chks_nil, chks_cons, chkA_nil, chkA_cons, chk1_no, chk1_yes, chkV_some, hAt_eq, hOf_some, hOf_none, hfn, hsb', hil, hgb, ha, hle, m1, hgm, hpm, hlem]
    refine Ans.nextE (nearK (F := F) (by omega) hnear hps _) ?_
    rintro u g4 ⟨rfl, k4⟩
    have y4 := k4.1
    have hsb4 := (k4.get hsbs (by simp)).trans hsb'
    have hgb4 := (k4.get hgbs (by simp)).trans hgb
    have hgb4s := lt_of_get hgb4
    have hsb4s := lt_of_get hsb4
    simp (disch := first | omega | (simp only [newRow_size, Array.size_setIfInBounds, Array.size_push]; done) | (simp only [newRow_size, Array.size_setIfInBounds, Array.size_push]; omega)) [eqT, eqF, neT, neF, ltT, ltF, leT, leF, nltT, nltF, nleT, nleF, nneT, nneF, List.getElem?_cons_zero, List.getElem?_cons_succ, r29_21, hsb4, hil, hgb4, hle]
    have sn4 := sn2.kept k4 (by simp)
    have sa4 : SentA g4 sb (es.map (·.m)) (es.map (·.gone)) vn vms vg onn omm ogg csn csm csg := ⟨(k4.get hsbs (by simp)).trans hsb, sa.ln.kept k4 (by simp), sa.lm.kept k4 (by simp), sa.lg.kept k4 (by simp), sa.cn, sa.cm, sa.cg, sa.gl, sa.nd, fun c hc => Nat.lt_of_lt_of_le (sa.lt c hc) k4.1, sa.sbn⟩
    have ndg : ogg.Nodup := (List.nodup_append.1 sa4.nd).2.1
    obtain ⟨b2, an2, c2, q1, q2, q3, q4, lo5, k5⟩ := sa4.lg.set (i := i) (new := [.bool true]) ndg (by rw [hlen]; exact hil) rfl rfl
    rw [e1] at q1
    injection q1 with q1 q1'
    subst q1 q1'
    rw [Nat.mul_one] at lo5 k5
    have hnew : csg.take i ++ [Value.bool true] ++ csg.drop (i + 1) = csg.take i ++ Value.bool true :: csg.drop (i + 1) := by simp
    rw [hnew] at lo5 k5
    generalize (kill g4 an).setIfInBounds bb (.cells (csg.take i ++ Value.bool true :: csg.drop (i + 1)) 1 true []) = g5 at lo5 k5 ⊢
    obtain ⟨sn5, mv5⟩ := sa4.mark (i := i) (b := bb) (by rw [hlen]; exact hil) (by rw [e1]; simp) lo5 rfl k5
    rw [← hO] at mv5
    have y5 := k5.1
    refine hk g5 _ ⟨_, takeR n fl, last, W, sb :: (onn ++ omm ++ [bb]), ⟨(ls2.kept k4 (by simp)).kept mv5.1 (fun c hc q => s.ow c q hc), s.gd.take n, bk', ?_, ?_⟩, (k02.trans (k4.weak (by simp))).trans (mv5.1.weak (fun c hc => List.mem_append_right _ hc)), fun c hc => .inl hc, ?_, by omega⟩
    · rw [map_set_get (fun e : Ent => e.m) (y := { e with gone := true }) hee rfl, List.map_set]
      exact sn5
    · intro c hc q
      rcases mv5.2 c hc with r | r
      · exact s.ow c r q
      · have := hWl c q; omega
    · intro c hc
      rcases mv5.2 c hc with r | r
      · exact .inl r
      · exact .inr (by omega)

end Go.Proofs.Ytmenfnapbggglaa

/- LineHonest: a step that doubles, spoils; the step. -/
set_option linter.unusedSimpArgs false
set_option linter.unusedVariables false
namespace Go.Proofs.Ytmenfnapbggglaa
open Go.Ev

set_option maxHeartbeats 2000000 in
theorem hDbl_spec {F : Nat} (hF : 60001 ≤ F) {g : H} {lv : Value} {es : List Ent} {fl : Flight} {last : Int} {W : List Nat} {sb : Nat} {O : List Nat} (s : HoS g lv es fl last W sb O) (hlast : last ≤ 36000) {xb : Nat} {kd on n at' turn : Int} {vm t18 t126 : Value}
    (hxb : hget g xb = some (.cells [.int .i64 kd, .int .i64 on, vm, .int .i64 n, .int .i64 at', .int .i64 turn] 0 true [])) (hxW : xb ∉ W)
    {kn kr : K} {ke : Nat → K} {Q : Value → H → Prop}
    (hr : ∀ g', StepD g lv last W sb O g' → Ans (kr [(6, .bool true)] g' []) Q) :
    Ans (evC F (cf F) hDbl kn ke kr [(0, .pointer (some ⟨sb, 0, none⟩)), (1, lv), (5, .pointer (some ⟨xb, 0, none⟩)), (18, t18), (126, t126)] g []) Q := by
  have hxbs := lt_of_get hxb
  have hpos := s.gd.w.pos
  have hel : (es.length : Int) ≤ 36000 := by rw [← s.bk.last]; exact hlast
  have hWl := s.ls.lt
  have hOl := s.sn.lt
  simp (disch := first | omega | (simp only [newRow_size, Array.size_setIfInBounds, Array.size_push]; done) | (simp only [newRow_size, Array.size_setIfInBounds, Array.size_push]; omega)) [hDbl, r29_23, hxb]
  refine Ans.next (s.ls.double (F := F) (by omega) s.gd.w (by omega) n) ?_
  rintro v g1 ⟨rfl, ls1, k1⟩
  have y1 := k1.1
  have sn1 := s.sn.kept k1 (fun c hc q => s.ow c hc q)
  have hxb1 := (k1.get hxbs hxW).trans hxb
  simp (disch := first | omega | (simp only [newRow_size, Array.size_setIfInBounds, Array.size_push]; done) | (simp only [newRow_size, Array.size_setIfInBounds, Array.size_push]; omega)) [eqT, eqF, neT, neF, ltT, ltF, leT, leF, nltT, nltF, nleT, nleF, nneT, nneF, List.getElem?_cons_zero, List.getElem?_cons_succ, r29_24, hxb1]
  refine Ans.next (findS_spec (F := F) (by omega) sn1 (by rw [map_m_len]; omega) n) ?_
  rintro u g2 ⟨rfl, rfl⟩
  rw [map_m_len]
  obtain ⟨vn, vms, vg, onn, omm, ogg, csn, csm, csg, sa, hO⟩ := id sn1
  have hsb := sa.at'
  have hsbs := lt_of_get hsb
  have hlen := map_m_len es
  have k01 : Kept g g2 (W ++ O) := k1.weak (fun c hc => List.mem_append_left _ hc)
  cases hlk : lk n fl 0 with
  | none =>
    have hd : doubleR false n fl last = (fl, last, 0, 160) := by unfold doubleR; rw [hlk]
    rw [hd] at ls1 ⊢
    have done : StepD g lv last W sb O g2 := ⟨es, fl, last, W, O, ⟨ls1, s.gd, s.bk, sn1, s.ow⟩, k01, fun c hc => .inl hc, fun c hc => .inl hc, by omega⟩
    by_cases hin : 1 ≤ n ∧ n ≤ es.length
    · obtain ⟨i, hi⟩ : ∃ i : Nat, n = 1 + i := ⟨(n - 1).toNat, by omega⟩
      have hil : i < es.length := by omega
      obtain ⟨e, hee⟩ : ∃ e, es[i]? = some e := ⟨_, List.getElem?_eq_getElem hil⟩
      have hg := s.bk.miss hlk i e hi hee
      rw [findN_hit hi hil]
      have hfn : ¬ ((i : Int) < 0) := by omega
      obtain ⟨bb, an, c, e1, rfl, hgb, ha, hle⟩ := LayO_at1 (i := i) sa.lg sa.cg (x := .bool true) (by rw [List.getElem?_map, List.getElem?_map, hee]; simp [hg]) (by rw [hlen]; exact hil)
      have hgbs := lt_of_get hgb
      rw [hlen] at hsb
      simp (disch := first | omega | (simp only [newRow_size, Array.size_setIfInBounds, Array.size_push]; done) | (simp only [newRow_size, Array.size_setIfInBounds, Array.size_push]; omega)) [r29_25, numE (F := F) (by omega), eqT, eqF, neT, neF, ltT, ltF, leT, leF, nltT, nltF, nleT, nleF, nneT, nneF, List.getElem?_cons_zero, List.getElem?_cons_succ, r29_26, hfn, hsb, hil, hgb, ha, hle]
      exact hr _ done
    · rw [findN_out hin]
      simp (disch := first | omega | (simp only [newRow_size, Array.size_setIfInBounds, Array.size_push]; done) | (simp only [newRow_size, Array.size_setIfInBounds, Array.size_push]; omega)) [r29_25, numE (F := F) (by omega), eqT, eqF, neT, neF, ltT, ltF, leT, leF, nltT, nltF, nleT, nleF, nneT, nneF, List.getElem?_cons_zero, List.getElem?_cons_succ, r29_26]
      exact hr _ done
  | some jp =>
    obtain ⟨j, p⟩ := jp
    obtain ⟨i, e, hi, hee, hg, hp⟩ := s.bk.hit hlk
    have hil := (List.getElem?_eq_some_iff.1 hee).1
    rw [findN_hit hi hil]
    have hfn : ¬ ((i : Int) < 0) := by omega
    obtain ⟨bb, an, c, e1, e1v, hgb, ha, hle⟩ := LayO_at1 (i := i) sa.lg sa.cg (x := .bool false) (by rw [List.getElem?_map, List.getElem?_map, hee]; simp [hg]) (by rw [hlen]; exact hil)
    obtain ⟨bm, anm, cm, e3, e3v, hgm, hpm, hlem⟩ := LayO_at3 (i := i) (m := e.m) sa.lm sa.cm (by rw [List.getElem?_map, hee]; rfl) (by rw [hlen]; exact hil)
    have hgbs := lt_of_get hgb
    have hgms := lt_of_get hgm
    have hsb' := hsb
    rw [e1v, e3v, hlen] at hsb'
    have hnear := s.bk.near e (List.mem_of_getElem? hee) hg
    rw [hp] at hnear
    by_cases hfull : 256 ≤ fl.length
    · have hpr : putR false fl last p = (fl, last, -1) := by unfold putR; rw [if_pos (Or.inr hfull)]
      have hd : doubleR false n fl last = (fl, last, 0, 46) := by unfold doubleR; rw [hlk]; simp only [hpr]; rw [if_pos (show (-1 : Int) < 0 by decide)]
      rw [hd] at ls1 ⊢
      have done : StepD g lv last W sb O g2 := ⟨es, fl, last, W, O, ⟨ls1, s.gd, s.bk, sn1, s.ow⟩, k01, fun c hc => .inl hc, fun c hc => .inl hc, by omega⟩
      have hlive : (256 : Int) ≤ (cntB (es.map (·.gone)) : Int) := by
        rw [cnt_live]
        unfold liveN
        rw [← s.bk.fl]
        omega
      simp (disch := first | omega | (simp only [newRow_size, Array.size_setIfInBounds, Array.size_push]; done) | (simp only [newRow_size, Array.size_setIfInBounds, Array.size_push]; omega)) [r29_25, numE (F := F) (by omega), eqT, eqF, neT, neF, ltT, ltF, leT, leF, nltT, nltF, nleT, nleF, nneT, nneF, List.getElem?_cons_zero, List.getElem?_cons_succ, r29_26, hfn, hsb', hil, hgb, ha, hle]
      refine Ans.next (live_spec (F := F) (by omega) sn1 (by rw [map_m_len]; omega)) ?_
      rintro u g3 ⟨rfl, rfl⟩
      simp (disch := first | omega | (simp only [newRow_size, Array.size_setIfInBounds, Array.size_push]; done) | (simp only [newRow_size, Array.size_setIfInBounds, Array.size_push]; omega)) [eqT, eqF, neT, neF, ltT, ltF, leT, leF, nltT, nltF, nleT, nleF, nneT, nneF, List.getElem?_cons_zero, List.getElem?_cons_succ, hlive]
      exact hr _ done
    · have hpr : putR false fl last p = (fl ++ [(last + 1, p)], last + 1, last + 1) := by unfold putR; rw [if_neg (by simp; omega)]
      have hneg : ¬ (last + 1 < 0) := by omega
      have hd : doubleR false n fl last = (fl ++ [(last + 1, p)], last + 1, last + 1, 0) := by unfold doubleR; rw [hlk]; simp only [hpr]; rw [if_neg hneg]
      have hgd := (s.gd.double false n).1
      rw [hd] at ls1 hgd ⊢
      have hll : last + 1 = (((es.map (·.m)).length : Nat) : Int) + 1 := by rw [map_m_len, s.bk.last]
      simp (disch := first | omega | (simp only [newRow_size, Array.size_setIfInBounds, Array.size_push]; done) | (simp only [newRow_size, Array.size_setIfInBounds, Array.size_push]; omega)) [r29_25, numE (F := F) (by omega), eqT, eqF, neT, neF, ltT, ltF, leT, leF, nltT, nltF, nleT, nleF, nneT, nneF, List.getElem?_cons_zero, List.getElem?_cons_succ, r29_27, hfn, hsb', hil, hgb, ha, hle, r29_29, hgm, hpm, hlem]
      rw [hll]
      refine Ans.next (putS_spec (F := F) (by omega) sn1 (by rw [map_m_len]; omega) e.m) ?_
      rintro u g3 ⟨rfl, O2, sn3, mv3⟩
      have y3 := mv3.1.1
      simp (disch := first | omega | (simp only [newRow_size, Array.size_setIfInBounds, Array.size_push]; done) | (simp only [newRow_size, Array.size_setIfInBounds, Array.size_push]; omega)) []
      refine hr g3 ⟨es ++ [⟨p, e.m, false⟩], _, _, W, O2, ⟨ls1.kept mv3.1 (fun c hc q => s.ow c q hc), hgd, s.bk.add hnear, by simpa using sn3, ?_⟩, k01.trans (mv3.1.weak (fun c hc => List.mem_append_right _ hc)), fun c hc => .inl hc, ?_, by simp only; omega⟩
      · intro c hc q
        rcases mv3.2 c hc with r | r
        · exact s.ow c r q
        · have := hWl c q; omega
      · intro c hc
        rcases mv3.2 c hc with r | r
        · exact .inl r
        · exact .inr (by omega)

set_option maxHeartbeats 2000000 in
theorem hSpl_spec {F : Nat} (hF : 60001 ≤ F) {g : H} {lv : Value} {es : List Ent} {fl : Flight} {last : Int} {W : List Nat} {sb : Nat} {O : List Nat} (s : HoS g lv es fl last W sb O) {xb : Nat} {kd on n at' turn : Int} {vm t183 : Value}
    (hxb : hget g xb = some (.cells [.int .i64 kd, .int .i64 on, vm, .int .i64 n, .int .i64 at', .int .i64 turn] 0 true []))
    {kn kr : K} {ke : Nat → K} {Q : Value → H → Prop}
    (hk : ∀ g' (e : Env), StepD g lv last W sb O g' → Ans (kn e g' []) Q) :
    Ans (evC F (cf F) hSpl kn ke kr [(1, lv), (5, .pointer (some ⟨xb, 0, none⟩)), (183, t183)] g []) Q := by
  have hxbs := lt_of_get hxb
  simp (disch := first | omega | (simp only [newRow_size, Array.size_setIfInBounds, Array.size_push]; done) | (simp only [newRow_size, Array.size_setIfInBounds, Array.size_push]; omega)) [hSpl, r29_31, hxb]
  refine Ans.next (s.ls.spoil (F := F) (by omega) n at' turn) ?_
  rintro v g1 ⟨rfl, ls1, k1⟩
  obtain ⟨es', bk', em, eg⟩ := s.bk.spoil n at' turn
  simp (disch := first | omega | (simp only [newRow_size, Array.size_setIfInBounds, Array.size_push]; done) | (simp only [newRow_size, Array.size_setIfInBounds, Array.size_push]; omega)) []
  refine hk g1 _ ⟨es', _, last, W, O, ⟨ls1, s.gd.spoil n at' turn, bk', ?_, s.ow⟩, k1.weak (fun c hc => List.mem_append_left _ hc), fun c hc => .inl hc, fun c hc => .inl hc, by omega⟩
  rw [em, eg]
  exact s.sn.kept k1 (fun c hc q => s.ow c hc q)

set_option maxHeartbeats 2000000 in
theorem step_spec {F : Nat} (hF : 60002 ≤ F) {OL : Nat → Prop} {h : H} {lv : Value} {es : List Ent} {fl : Flight} {last : Int} {W : List Nat} {sb : Nat} {O : List Nat} (s : HoS h lv es fl last W sb O) (hlast : last ≤ 36000) {xcs : List Value} {x : Stp} (sx : StpC OL h xcs x) :
    Ans (cf F 29 [.pointer (some ⟨sb, 0, none⟩), lv, .agg ⟨xcs⟩] h) fun u h' => u = .bool true ∧ StepD h lv last W sb O h' := by
  generalize hQ : (fun (u : Value) (h' : H) => u = Value.bool true ∧ StepD h lv last W sb O h') = Q
  obtain ⟨F, rfl⟩ : ∃ G, F = G + 1 := ⟨F - 1, by omega⟩
  have hres : a29.results = [.tmp 6] := rfl
  rw [cf_step (a := a29) rfl rfl (by simp [a29]), a29_cut, hres]
  obtain ⟨vm, rfl, sl⟩ := sx
  have om := sl.one
  simp only [oneCell] at om
  have hWl := s.ls.lt
  have hOl := s.sn.lt
  simp (disch := first | omega | (simp only [newRow_size, Array.size_setIfInBounds, Array.size_push]; done) | (simp only [newRow_size, Array.size_setIfInBounds, Array.size_push]; omega)) [r29_0, om]
  generalize hxx : [Value.int .i64 x.kind, .int .i64 x.on, vm, .int .i64 x.n, .int .i64 x.at', .int .i64 x.turn] = xx
  have hxb : hget (Ev.newRow h xx 0 []) h.size = some (.cells xx 0 true []) := by simp
  have k0 := rowKept h xx 0 []
  have z0 : (Ev.newRow h xx 0 []).size = h.size + 1 := by simp
  generalize Ev.newRow h xx 0 [] = g at hxb k0 z0 ⊢
  subst hxx
  have hxbs := lt_of_get hxb
  have sg := s.kept k0 (by simp)
  have sl' := SlM.imp sl (ok' := OL) (fun _ _ q => q) (keep_of k0.c (by simp))
  have hxW : h.size ∉ W := fun q => by have := hWl _ q; omega
  have lift : ∀ g', StepD g lv last W sb O g' → StepD h lv last W sb O g' := by
    rintro g' ⟨es', fl', last', W', O', a1, a2, a3, a4, a5⟩
    refine ⟨es', fl', last', W', O', a1, (k0.weak (by simp)).trans a2, fun c hc => ?_, fun c hc => ?_, a5⟩
    · rcases a3 c hc with r | r
      · exact .inl r
      · exact .inr (by omega)
    · rcases a4 c hc with r | r
      · exact .inl r
      · exact .inr (by omega)
  have fin : ∀ g', StepD g lv last W sb O g' → Ans (endK (cfX XD) [ARes.tmp 6] [(6, .bool true)] g' []) Q := by
    intro g' d
    simp (disch := first | omega | (simp only [newRow_size, Array.size_setIfInBounds, Array.size_push]; done) | (simp only [newRow_size, Array.size_setIfInBounds, Array.size_push]; omega)) []
    subst hQ
    exact Ans.of ⟨rfl, lift g' d⟩
  have fin2 : ∀ g' (e : Env), StepD g lv last W sb O g' → Ans (evC F (cf F) (.seq (.region r29_32 [6]) .ret) (endK (cfX XD) [ARes.tmp 6]) noK (endK (cfX XD) [ARes.tmp 6]) e g' []) Q := by
    intro g' e d
    simp (disch := first | omega | (simp only [newRow_size, Array.size_setIfInBounds, Array.size_push]; done) | (simp only [newRow_size, Array.size_setIfInBounds, Array.size_push]; omega)) [r29_32]
    subst hQ
    exact Ans.of ⟨rfl, lift g' d⟩
  by_cases h1 : x.kind = 1
  · simp (disch := first | omega | (simp only [newRow_size, Array.size_setIfInBounds, Array.size_push]; done) | (simp only [newRow_size, Array.size_setIfInBounds, Array.size_push]; omega)) [r29_1, hxb, r29_2, h1, eqT, eqF, neT, neF, ltT, ltF, leT, leF, nltT, nltF, nleT, nleF, nneT, nneF, List.getElem?_cons_zero, List.getElem?_cons_succ]
    exact hSend_spec (F := F) (by omega) sg hlast hxb sl' (fun g' e d => fin2 g' e d)
  by_cases h2 : x.kind = 2
  · simp (disch := first | omega | (simp only [newRow_size, Array.size_setIfInBounds, Array.size_push]; done) | (simp only [newRow_size, Array.size_setIfInBounds, Array.size_push]; omega)) [r29_1, hxb, r29_2, h2, eqT, eqF, neT, neF, ltT, ltF, leT, leF, nltT, nltF, nleT, nleF, nneT, nneF, List.getElem?_cons_zero, List.getElem?_cons_succ, r29_14]
    exact hTake_spec (F := F) (by omega) sg hlast hxb hxW (fun g' e d => fin2 g' e d) (fun g' d => fin g' d)
  by_cases h3 : x.kind = 3
  · simp (disch := first | omega | (simp only [newRow_size, Array.size_setIfInBounds, Array.size_push]; done) | (simp only [newRow_size, Array.size_setIfInBounds, Array.size_push]; omega)) [r29_1, hxb, r29_2, h3, eqT, eqF, neT, neF, ltT, ltF, leT, leF, nltT, nltF, nleT, nleF, nneT, nneF, List.getElem?_cons_zero, List.getElem?_cons_succ, r29_14, r29_22]
    exact hDbl_spec (F := F) (by omega) sg hlast hxb hxW (fun g' d => fin g' d)
  by_cases h4 : x.kind = 4
  · simp (disch := first | omega | (simp only [newRow_size, Array.size_setIfInBounds, Array.size_push]; done) | (simp only [newRow_size, Array.size_setIfInBounds, Array.size_push]; omega)) [r29_1, hxb, r29_2, h4, eqT, eqF, neT, neF, ltT, ltF, leT, leF, nltT, nltF, nleT, nleF, nneT, nneF, List.getElem?_cons_zero, List.getElem?_cons_succ, r29_14, r29_22, r29_30]
    exact hSpl_spec (F := F) (by omega) sg hxb (fun g' e d => fin2 g' e d)
  · simp (disch := first | omega | (simp only [newRow_size, Array.size_setIfInBounds, Array.size_push]; done) | (simp only [newRow_size, Array.size_setIfInBounds, Array.size_push]; omega)) [r29_1, hxb, r29_2, h1, h2, h3, h4, eqT, eqF, neT, neF, ltT, ltF, leT, leF, nltT, nltF, nleT, nleF, nneT, nneF, List.getElem?_cons_zero, List.getElem?_cons_succ, r29_14, r29_22, r29_30]
    exact fin2 g _ ⟨es, fl, last, W, O, sg, Kept.refl _ _, fun c hc => .inl hc, fun c hc => .inl hc, by omega⟩

end Go.Proofs.Ytmenfnapbggglaa

/- LineHonest. -/
set_option linter.unusedSimpArgs false
set_option linter.unusedVariables false
namespace Go.Proofs.Ytmenfnapbggglaa
open Go.Ev

def hIn : ACode := (.seq (.region r12_13 [0, 3, 4, 5, 7, 8]) (.block 2 (.loop [0, 3, 4, 5, 7, 8] l12_20)))
theorem l12_cut : l12_22 = (.seq (.seq (.region r12_6 [0, 3, 4, 5, 24]) (.cond (.tmp 24) .skip (.exit 0))) (.seq (.block 1 (.seq (.region r12_7 [0, 3, 4, 5, 6]) (.seq (.seq (.region r12_8 [0, 3, 4, 5, 35]) (.cond (.tmp 35) (.seq (.region r12_9 [2]) .ret) .skip)) (.seq (.region r12_10 [0, 3, 4, 5, 7]) (.seq (.seq (.region r12_11 [0, 3, 4, 5, 7, 47]) (.cond (.tmp 47) (.seq (.region r12_12 [2]) .ret) .skip)) hIn))))) (.region r12_21 [0, 3, 4, 5]))) := rfl

set_option maxHeartbeats 4000000 in
theorem hIn_spec {F : Nat} (hF : 60001 ≤ F) {g : H} {lv : Value} {es : List Ent} {fl : Flight} {last : Int} {W : List Nat} {sb : Nat} {O : List Nat} (s : HoS g lv es fl last W sb O) (hlast : last ≤ 36000) {ok : Nat → Prop} {v un i5 : Value} (si : SlR ok 1 IntC g un (fl.map (·.1)))
    {kn kr : K} {ke : Nat → K} {Q : Value → H → Prop}
    (hk : ∀ g' (e : Env), Kept g g' [] → Ans (kn ((0, v) :: (3, lv) :: (4, .pointer (some ⟨sb, 0, none⟩)) :: (5, i5) :: e) g' []) Q) :
    Ans (evC F (cf F) hIn kn ke kr [(0, v), (3, lv), (4, .pointer (some ⟨sb, 0, none⟩)), (5, i5), (7, un)] g []) Q := by
  have hel : (es.length : Int) ≤ 36000 := by rw [← s.bk.last]; exact hlast
  have hfl := s.gd.len
  have hlen := map_m_len es
  have hln0 := si.len
  have hlmap : (fl.map (·.1)).length = fl.length := by simp
  simp (disch := first | omega | (simp only [newRow_size, Array.size_setIfInBounds, Array.size_push]; done) | (simp only [newRow_size, Array.size_setIfInBounds, Array.size_push]; omega)) [hIn, r12_13]
  refine loop_rule (fun mm e g' => ∃ (k : Nat), mm = fl.length - k ∧ k ≤ fl.length ∧ e = [(0, v), (3, lv), (4, .pointer (some ⟨sb, 0, none⟩)), (5, i5), (7, un), (8, .int .i64 k)] ∧ Kept g g' []) ?_ _ fl.length _ _ (by omega) ⟨0, by omega, by omega, rfl, Kept.refl _ _⟩
  rintro mm e g' again ⟨k, rfl, hkl, rfl, kg⟩ ih
  have hw : IntKind.i64.wrap ((k : Int) + 1) = ((k + 1 : Nat) : Int) := by rw [wrap_id (by omega) (by omega)]; rfl
  have sig := SlI.imp si (ok' := ok) (fun _ _ q => q) (keep_of kg.c (by simp))
  have hln := sig.len
  rw [hlmap] at hln
  by_cases hlt : k < fl.length
  · obtain ⟨q, hq⟩ : ∃ q, fl[k]? = some q := ⟨_, List.getElem?_eq_getElem hlt⟩
    have sg := s.kept kg (by simp)
    obtain ⟨b, o, c, cs, esz, lvz, an, rfl, hkb, hg, hle, hp⟩ := sig.at' (i := k) (x := q.1) (by rw [List.getElem?_map, hq]; rfl)
    have hp' : (cs.drop (o + k * 1)).take 1 = [.int .i64 q.1] := hp
    rw [Nat.mul_one] at hp' hle
    rw [hlmap]
    rw [hlmap] at ih
    have hgs := lt_of_get hg
    have hkc : (k : Int) < (fl.length : Int) := by omega
    have hrise := List.pairwise_iff_getElem.1 s.gd.w.rise
    have hqe : fl[k] = q := (List.getElem?_eq_some_iff.1 hq).2
    have hlk : lk q.1 fl 0 = some (k, q.2) := by
      have := lk_hit (n := q.1) (fl := fl) (i := k) (k := 0) (p := q.2) hq (fun j r hj hr => by
        have hjl := (List.getElem?_eq_some_iff.1 hr).1
        have hre : fl[j] = r := (List.getElem?_eq_some_iff.1 hr).2
        have := hrise j k hjl hlt hj
        rw [hqe, hre] at this
        omega)
      rw [Nat.zero_add] at this
      exact this
    obtain ⟨i, en, hi, hee, hgn, hpe⟩ := s.bk.hit hlk
    have hil := (List.getElem?_eq_some_iff.1 hee).1
    have hnear := s.bk.near en (List.mem_of_getElem? hee) hgn
    rw [hpe] at hnear
    have hps := s.gd.sl q (List.mem_of_getElem? hq)
    have hfn : ¬ ((i : Int) < 0) := by omega
    simp (disch := first | omega | (simp only [newRow_size, Array.size_setIfInBounds, Array.size_push]; done) | (simp only [newRow_size, Array.size_setIfInBounds, Array.size_push]; omega)) [l12_20, r12_14, hkc, eqT, eqF, neT, neF, ltT, ltF, leT, leF, nltT, nltF, nleT, nleF, nneT, nneF, List.getElem?_cons_zero, List.getElem?_cons_succ, r12_15, hlt, hg, hp', hle]
    refine Ans.next (findS_spec (F := F) (by omega) sg.sn (by rw [map_m_len]; omega) q.1) ?_
    rintro u g1 ⟨rfl, rfl⟩
    rw [map_m_len, findN_hit hi hil]
    simp (disch := first | omega | (simp only [newRow_size, Array.size_setIfInBounds, Array.size_push]; done) | (simp only [newRow_size, Array.size_setIfInBounds, Array.size_push]; omega)) [r12_16, hlt, hg, hp', hle]
    refine Ans.next (sg.ls.look (F := F) (by omega) q.1) ?_
    rintro u g2 ⟨rfl, k2⟩
    have y2 := k2.1
    have hM : (lookM q.1 fl).1 = q.2.1 := by simp [lookM, hlk]
    have hE : (lookM q.1 fl).2 = 0 := by simp [lookM, hlk]
    rw [hM, hE]
    have hMv : q.2.1.val = .agg ⟨[.int .i64 q.2.1.fr, .int .i64 q.2.1.to, .string q.2.1.b]⟩ := rfl
    rw [hMv]
    simp (disch := first | omega | (simp only [newRow_size, Array.size_setIfInBounds, Array.size_push]; done) | (simp only [newRow_size, Array.size_setIfInBounds, Array.size_push]; omega)) [eqT, eqF, neT, neF, ltT, ltF, leT, leF, nltT, nltF, nleT, nleF, nneT, nneF, List.getElem?_cons_zero, List.getElem?_cons_succ]
    have m3 : hget (Ev.newRow g2 [.int .i64 q.2.1.fr, .int .i64 q.2.1.to, .string q.2.1.b] 0 []) g2.size = some (.cells [.int .i64 q.2.1.fr, .int .i64 q.2.1.to, .string q.2.1.b] 0 true []) := by simp
    have k3 := rowKept g2 [.int .i64 q.2.1.fr, .int .i64 q.2.1.to, .string q.2.1.b] 0 []
    have z3 : (Ev.newRow g2 [.int .i64 q.2.1.fr, .int .i64 q.2.1.to, .string q.2.1.b] 0 []).size = g2.size + 1 := by simp
    generalize Ev.newRow g2 [.int .i64 q.2.1.fr, .int .i64 q.2.1.to, .string q.2.1.b] 0 [] = g3 at m3 k3 z3 ⊢
    have m3s := lt_of_get m3
    have k23 := k2.trans k3
    have sg3 := sg.kept k23 (by simp)
    have hg3 := (k23.get hgs (by simp)).trans hg
    have hg3s := lt_of_get hg3
    obtain ⟨vn, vms, vg, onn, omm, ogg, csn, csm, csg, sa, hO⟩ := id sg3.sn
    have hsb := sa.at'
    obtain ⟨bb, anb, cb, e1, e1v, hgb, ha, hlb⟩ := LayO_at1 (i := i) sa.lg sa.cg (x := .bool false) (by rw [List.getElem?_map, List.getElem?_map, hee]; simp [hgn]) (by rw [hlen]; exact hil)
    obtain ⟨bm, anm, cm, e3, e3v, hgm, hpm, hlem⟩ := LayO_at3 (i := i) (m := en.m) sa.lm sa.cm (by rw [List.getElem?_map, hee]; rfl) (by rw [hlen]; exact hil)
    have hgbs := lt_of_get hgb
    have hgms := lt_of_get hgm
    rw [e1v, e3v, hlen] at hsb
    have hsbs := lt_of_get hsb
    have fin : ∀ g4, Kept g3 g4 [] → Ans (evR (cf F) r12_19 [(0, v), (3, lv), (4, .pointer (some ⟨sb, 0, none⟩)), (5, i5), (7, .slice (some ⟨b, o, none⟩) fl.length c), (8, .int .i64 k), (112, .bool false)] g4 (keepK [0, 3, 4, 5, 7, 8] again) [0, 3, 4, 5, 7, 8] []) Q := by
      intro g4 k4
      simp (disch := first | omega | (simp only [newRow_size, Array.size_setIfInBounds, Array.size_push]; done) | (simp only [newRow_size, Array.size_setIfInBounds, Array.size_push]; omega)) [r12_19, hw]
      exact ih (fl.length - (k + 1)) _ _ (by omega) ⟨k + 1, rfl, by omega, rfl, (kg.trans k23).trans k4⟩
    by_cases hk0 : k = 0
    · have hk0' : ¬ (0 : Int) < (k : Int) := by omega
      simp (disch := first | omega | (simp only [newRow_size, Array.size_setIfInBounds, Array.size_push]; done) | (simp only [newRow_size, Array.size_setIfInBounds, Array.size_push]; omega)) [d12_17, dk_go, chks_nil, chks_cons, chkA_nil, chkA_cons, chk1_no, chk1_yes, chkV_some, hAt_eq, hOf_some, hOf_none, hfn, hsb, hil, hgb, ha, hlb, hk0', numE (F := F) (by omega), eqT, eqF, neT, neF, ltT, ltF, leT, leF, nltT, nltF, nleT, nleF, nneT, nneF, List.getElem?_cons_zero, List.getElem?_cons_succ, m3, hgm, hpm, hlem]
      refine Ans.nextE (nearK (F := F) (by omega) hnear hps _) ?_
      rintro u g4 ⟨rfl, k4⟩
      simp (disch := first | omega | (simp only [newRow_size, Array.size_setIfInBounds, Array.size_push]; done) | (simp only [newRow_size, Array.size_setIfInBounds, Array.size_push]; omega)) [eqT, eqF, neT, neF, ltT, ltF, leT, leF, nltT, nltF, nleT, nleF, nneT, nneF, List.getElem?_cons_zero, List.getElem?_cons_succ]
      exact fin g4 k4
    · have hk0' : (0 : Int) < (k : Int) := by omega
      obtain ⟨r, hr⟩ : ∃ r, fl[k - 1]? = some r := ⟨_, List.getElem?_eq_getElem (by omega)⟩
      have hre : fl[k - 1] = r := (List.getElem?_eq_some_iff.1 hr).2
      have hlt2 : r.1 < q.1 := by
        have := hrise (k - 1) k (by omega) hlt (by omega)
        rw [hqe, hre] at this
        exact this
      have hnge : ¬ q.1 ≤ r.1 := by omega
      have hwk : IntKind.i64.wrap ((k : Int) - 1) = ((k - 1 : Nat) : Int) := by rw [wrap_id (by omega) (by omega)]; omega
      obtain ⟨b2, o2, c2, cs2, es2, lv2, an2, hv2, _, hg2, hle2, hp2⟩ := sig.at' (i := k - 1) (x := r.1) (by rw [List.getElem?_map, hr]; rfl)
      injection hv2 with hv2 _ _
      injection hv2 with hv2
      injection hv2 with hv2 hv2' _
      subst hv2 hv2'
      rw [hg] at hg2
      injection hg2 with hg2
      injection hg2 with hg2 _ _ _
      subst hg2
      have hp2' : (cs.drop (o + (k - 1) * 1)).take 1 = [.int .i64 r.1] := hp2
      rw [Nat.mul_one] at hp2' hle2
      have hk1l : k - 1 < fl.length := by omega
      simp (disch := first | omega | (simp only [newRow_size, Array.size_setIfInBounds, Array.size_push]; done) | (simp only [newRow_size, Array.size_setIfInBounds, Array.size_push]; omega)) [d12_17, dk_go, chks_nil, chks_cons, chkA_nil, chkA_cons, chk1_no, chk1_yes, chkV_some, hAt_eq, hOf_some, hOf_none, hfn, hsb, hil, hgb, ha, hlb, hk0', numE (F := F) (by omega), eqT, eqF, neT, neF, ltT, ltF, leT, leF, nltT, nltF, nleT, nleF, nneT, nneF, List.getElem?_cons_zero, List.getElem?_cons_succ, m3, hgm, hpm, hlem, hwk, hg3, hp2', hp', hle2, hle, hlt, hk1l, hnge]
      refine Ans.nextE (nearK (F := F) (by omega) hnear hps _) ?_
      rintro u g4 ⟨rfl, k4⟩
      simp (disch := first | omega | (simp only [newRow_size, Array.size_setIfInBounds, Array.size_push]; done) | (simp only [newRow_size, Array.size_setIfInBounds, Array.size_push]; omega)) [eqT, eqF, neT, neF, ltT, ltF, leT, leF, nltT, nltF, nleT, nleF, nneT, nneF, List.getElem?_cons_zero, List.getElem?_cons_succ]
      exact fin g4 k4
  · have hkk : k = fl.length := by omega
    subst hkk
    simp (disch := first | omega | (simp only [newRow_size, Array.size_setIfInBounds, Array.size_push]; done) | (simp only [newRow_size, Array.size_setIfInBounds, Array.size_push]; omega)) [l12_20, r12_14, hln, eqT, eqF, neT, neF, ltT, ltF, leT, leF, nltT, nltF, nleT, nleF, nneT, nneF, List.getElem?_cons_zero, List.getElem?_cons_succ]
    exact hk _ _ kg

end Go.Proofs.Ytmenfnapbggglaa

/- LineHonest: the law. -/
set_option linter.unusedSimpArgs false
set_option linter.unusedVariables false
namespace Go.Proofs.Ytmenfnapbggglaa
open Go.Ev

set_option maxHeartbeats 2000000 in
theorem f12_spec {F : Nat} (hF : 60003 ≤ F) {h : H} {ok : Nat → Prop} {v : Value} {script : List Stp} (s : SlR ok 6 (StpC ok) h v script) :
    Ans (cf F 12 [v] h) fun u h' => u = .bool true := by
  generalize hQ : (fun (u : Value) (h' : H) => u = Value.bool true) = Q
  obtain ⟨F, rfl⟩ : ∃ G, F = G + 1 := ⟨F - 1, by omega⟩
  rw [cf_step (a := a12) rfl rfl (by simp [a12])]
  have hl := s.len
  have hnew : ∀ h, cf F 15 [] h = some (.pointer (some ⟨h.size, 0, none⟩), Ev.newRow h [.map none, .int .i64 0] 0 []) := by
    obtain ⟨F, rfl⟩ : ∃ G, F = G + 1 := ⟨F - 1, by omega⟩
    exact fun h => new_eq F h
  simp (disch := first | omega | (simp only [newRow_size, Array.size_setIfInBounds, Array.size_push]; done) | (simp only [newRow_size, Array.size_setIfInBounds, Array.size_push]; omega)) [a12, l12_cut, r12_0, r12_1, hnew, r12_2, nilEq, eqT, eqF, neT, neF, ltT, ltF, leT, leF, nltT, nltF, nleT, nleF, nneT, nneF, List.getElem?_cons_zero, List.getElem?_cons_succ, r12_4, r12_5]
  generalize hzz : [Value.map none, .int .i64 0] = zz
  generalize hyy : [Value.slice none 0 0, .slice none 0 0, .slice none 0 0] = yy
  have hl1 : hget (Ev.newRow (Ev.newRow h zz 0 []) yy 0 []) h.size = some (.cells zz 0 true []) := by simp (disch := first | omega | (simp only [newRow_size, Array.size_setIfInBounds, Array.size_push]; done) | (simp only [newRow_size, Array.size_setIfInBounds, Array.size_push]; omega)) []
  have hl2 : hget (Ev.newRow (Ev.newRow h zz 0 []) yy 0 []) (h.size + 1) = some (.cells yy 0 true []) := by simp (disch := first | omega | (simp only [newRow_size, Array.size_setIfInBounds, Array.size_push]; done) | (simp only [newRow_size, Array.size_setIfInBounds, Array.size_push]; omega)) []
  have k1 : Kept h (Ev.newRow (Ev.newRow h zz 0 []) yy 0 []) [] := kept_row (rowKept _ _ _ _) _ _ _
  have z1 : (Ev.newRow (Ev.newRow h zz 0 []) yy 0 []).size = h.size + 2 := by simp
  generalize Ev.newRow (Ev.newRow h zz 0 []) yy 0 [] = g1 at hl1 hl2 k1 z1 ⊢
  subst hzz hyy
  have s0 : HoS g1 (.pointer (some ⟨h.size, 0, none⟩)) [] [] 0 [h.size] (h.size + 1) [h.size + 1] := by
    refine ⟨.inr ⟨h.size, none, rfl, rfl, ⟨hl1, fun _ => rfl, nofun⟩, rfl⟩, Gd.nil, Bk.nil, ⟨_, _, _, [], [], [], [], [], [], ⟨hl2, .inl ⟨rfl, rfl, rfl, rfl⟩, .inl ⟨rfl, rfl, rfl, rfl⟩, .inl ⟨rfl, rfl, rfl, rfl⟩, rfl, rfl, rfl, rfl, by simp, by simp, by simp⟩, rfl⟩, by simp⟩
  refine loop_rule (fun m e g => ∃ (i : Nat) (es : List Ent) (fl : Flight) (last : Int) (W O : List Nat), m = 120 - i ∧ i ≤ 120 ∧ last ≤ 300 * i ∧ e = [(0, v), (3, .pointer (some ⟨h.size, 0, none⟩)), (4, .pointer (some ⟨h.size + 1, 0, none⟩)), (5, .int .i64 i)] ∧ HoS g (.pointer (some ⟨h.size, 0, none⟩)) es fl last W (h.size + 1) O ∧ Kept h g [] ∧ (∀ c ∈ W, h.size ≤ c) ∧ (∀ c ∈ O, h.size ≤ c)) ?_ _ 120 _ _ (by omega) ⟨0, _, _, _, _, _, by omega, by omega, by omega, rfl, s0, k1, by simp, by simp⟩
  clear s0
  rintro m e g again ⟨i, es, fl, last, W, O, rfl, hi120, hlast, rfl, sc, kg, nW, nO⟩ ih
  have y0 := kg.1
  have hw1 : IntKind.i64.wrap ((i : Int) + 1) = ((i + 1 : Nat) : Int) := by rw [wrap_id (by omega) (by omega)]; rfl
  by_cases hlt : i < script.length ∧ i < 120
  · obtain ⟨x, hx⟩ : ∃ x, script[i]? = some x := ⟨_, List.getElem?_eq_getElem hlt.1⟩
    have sg := SlR.imp s (ok' := fun c => ok c ∧ c < h.size) (R' := StpC (fun c => ok c ∧ c < h.size)) (h' := g) (fun c hc q => ⟨q, hc⟩) (fun cs x _ q => StpC.imp q (fun c hc q => ⟨q, hc⟩) (keep_of kg.c (by simp))) (keep_of kg.c (by simp))
    obtain ⟨b', o, c, csx, esx, lv, an, rfl, hk, hg, hle, hx5⟩ := sg.at' hx
    have hcl : ((csx.drop (o + i * 6)).take 6).length = 6 := by simp; omega
    have hgs := lt_of_get hg
    simp (disch := first | omega | (simp only [newRow_size, Array.size_setIfInBounds, Array.size_push]; done) | (simp only [newRow_size, Array.size_setIfInBounds, Array.size_push]; omega)) [r12_6, hg, hl, eqT, eqF, neT, neF, ltT, ltF, leT, leF, nltT, nltF, nleT, nleF, nneT, nneF, List.getElem?_cons_zero, List.getElem?_cons_succ, r12_7]
    refine Ans.next (step_spec (F := F) (by omega) sc (by omega) hx5) ?_
    rintro u g2 ⟨rfl, es', fl', last', W', O', sc2, k2, hW', hO', hl'⟩
    have y2 := k2.1
    simp (disch := first | omega | (simp only [newRow_size, Array.size_setIfInBounds, Array.size_push]; done) | (simp only [newRow_size, Array.size_setIfInBounds, Array.size_push]; omega)) [r12_8, eqT, eqF, neT, neF, ltT, ltF, leT, leF, nltT, nltF, nleT, nleF, nneT, nneF, List.getElem?_cons_zero, List.getElem?_cons_succ, r12_10]
    refine Ans.next (sc2.ls.numbers (F := F) (by omega) sc2.gd.w sc2.gd.len (by omega)) ?_
    rintro un g3 ⟨sn, k3⟩
    have y3 := k3.1
    have sc3 := sc2.kept k3 (by simp)
    have hln := sn.len
    have hfl := sc2.gd.len
    have hfl' : ¬ (256 : Int) < (fl'.length : Int) := by omega
    rw [List.length_map] at hln
    have hel : (es'.length : Int) ≤ 36000 := by rw [← sc2.bk.last]; omega
    have hcnt : cntB (es'.map (·.gone)) = fl'.length := by rw [cnt_live]; unfold liveN; rw [← sc2.bk.fl]
    simp (disch := first | omega | (simp only [newRow_size, Array.size_setIfInBounds, Array.size_push]; done) | (simp only [newRow_size, Array.size_setIfInBounds, Array.size_push]; omega)) [r12_11, hln, hfl', eqT, eqF, neT, neF, ltT, ltF, leT, leF, nltT, nltF, nleT, nleF, nneT, nneF, List.getElem?_cons_zero, List.getElem?_cons_succ]
    refine Ans.next (live_spec (F := F) (by omega) sc3.sn (by rw [map_m_len]; omega)) ?_
    rintro u g4 ⟨rfl, rfl⟩
    rw [hcnt]
    simp (disch := first | omega | (simp only [newRow_size, Array.size_setIfInBounds, Array.size_push]; done) | (simp only [newRow_size, Array.size_setIfInBounds, Array.size_push]; omega)) [eqT, eqF, neT, neF, ltT, ltF, leT, leF, nltT, nltF, nleT, nleF, nneT, nneF, List.getElem?_cons_zero, List.getElem?_cons_succ]
    have k03 : Kept h g4 [] := ⟨by omega, fun c hc _ => (k3.get (by omega) (by simp)).trans ((k2.get (by omega) (fun q => by
      rcases List.mem_append.1 q with r | r
      · have := nW c r; omega
      · have := nO c r; omega)).trans (kg.get hc (by simp)))⟩
    refine hIn_spec (F := F) (by omega) sc3 (by omega) sn ?_
    intro g5 e k5
    simp (disch := first | omega | (simp only [newRow_size, Array.size_setIfInBounds, Array.size_push]; done) | (simp only [newRow_size, Array.size_setIfInBounds, Array.size_push]; omega)) [r12_21, hw1]
    refine ih (120 - (i + 1)) _ _ (by omega) ⟨i + 1, es', fl', last', W', O', rfl, by omega, by push_cast; omega, rfl, sc3.kept k5 (by simp), k03.trans k5, ?_, ?_⟩
    · intro c hc
      rcases hW' c hc with r | r
      · exact nW c r
      · omega
    · intro c hc
      rcases hO' c hc with r | r
      · exact nO c r
      · omega
  · by_cases h1' : i < script.length
    · simp (disch := first | omega | (simp only [newRow_size, Array.size_setIfInBounds, Array.size_push]; done) | (simp only [newRow_size, Array.size_setIfInBounds, Array.size_push]; omega)) [r12_6, hl, eqT, eqF, neT, neF, ltT, ltF, leT, leF, nltT, nltF, nleT, nleF, nneT, nneF, List.getElem?_cons_zero, List.getElem?_cons_succ, r12_23]
      refine Ans.next (knownK (F := F) (by omega) g) ?_
      rintro u h2 ⟨rfl, k2⟩
      simp (disch := first | omega | (simp only [newRow_size, Array.size_setIfInBounds, Array.size_push]; done) | (simp only [newRow_size, Array.size_setIfInBounds, Array.size_push]; omega)) []
      subst hQ
      exact Ans.of rfl
    · simp (disch := first | omega | (simp only [newRow_size, Array.size_setIfInBounds, Array.size_push]; done) | (simp only [newRow_size, Array.size_setIfInBounds, Array.size_push]; omega)) [r12_6, hl, eqT, eqF, neT, neF, ltT, ltF, leT, leF, nltT, nltF, nleT, nleF, nneT, nneF, List.getElem?_cons_zero, List.getElem?_cons_succ, r12_23]
      refine Ans.next (knownK (F := F) (by omega) g) ?_
      rintro u h2 ⟨rfl, k2⟩
      simp (disch := first | omega | (simp only [newRow_size, Array.size_setIfInBounds, Array.size_push]; done) | (simp only [newRow_size, Array.size_setIfInBounds, Array.size_push]; omega)) []
      subst hQ
      exact Ans.of rfl

end Go.Proofs.Ytmenfnapbggglaa
