/- Several texts in one: Dk1, Dk2, Dk3, Dk4, Dk5, Dk6, Dk7, Dk8, Dk9, Dk10, Dk11, Dk12, Dk13, Dk14, Dk15, Dk16. -/
import Derived.Test.YtkkagpchcefidaaMr8

/- Desk.twin: the tags of one change, laid. -/
set_option linter.unusedSimpArgs false
set_option linter.unusedVariables false
namespace Go.Proofs.Ytkkagpchcefidaa
open Go.Ev

def tin : ACode := (.seq (.region r36_7 [0, 1, 5, 6, 7, 8]) (.block 2 (.loop [0, 1, 5, 6, 7, 8] l36_11)))
theorem l36_split : l36_16 = (.seq (.seq (.region r36_3 [0, 1, 5, 6, 17]) (.cond (.tmp 17) .skip (.exit 0))) (.seq (.block 1 (.seq (.seq (.region r36_4 [0, 1, 5, 6, 26]) (.cond (.tmp 26) (.regionD d36_5 [(4, [7])] [0, 1, 5, 6]) .skip)) (.seq (.region r36_6 [0, 1, 5, 6, 7]) (.seq tin (.seq (.region r36_12 [0, 1, 5, 6, 7]) (.seq (.region r36_13 [0, 1, 5, 6, 7]) (.regionD d36_14 [] [0, 1, 5, 6]))))))) (.region r36_15 [0, 1, 5, 6]))) := rfl

def intsV (l : List Int) : List Value := l.map fun n => .int .i64 n

set_option maxHeartbeats 1000000 in
theorem tin_spec {F : Nat} (hF : 17592186044430 ≤ F) {okL : Nat → Prop} {g : H} {v : Value} {l : List Tgd} (sl : SlR okL 5 (TgdC okL) g v l) {i : Nat} {x : Tgd} (hx : l[i]? = some x) (hs : x.tags.length ≤ 1048576)
    {d m t : Value} {b : Nat} {cs : List Value} {an : List Nat} (lt : Lay 1 g t 0 b cs an) (hL : ∀ c ∈ b :: an, ¬ okL c) (hnd : (b :: an).Nodup) (han : ∀ c ∈ an, c < g.size)
    {kn kr : K} {ke : Nat → K} {Q : Value → H → Prop}
    (hk : ∀ g2 t2 b2 cs2 an2 (e : Env), Lay 1 g2 t2 x.tags.length b2 cs2 an2 → cs2.take x.tags.length = intsV x.tags → Kept g g2 (b :: an) → (b2 = b ∨ g.size ≤ b2) → (∀ c ∈ an2, c = b ∨ c ∈ an ∨ g.size ≤ c) → (b2 :: an2).Nodup → (∀ c ∈ an2, c < g2.size) →
      Ans (kn ((0, d) :: (1, v) :: (5, m) :: (6, .int .i64 i) :: (7, t2) :: e) g2 []) Q) :
    Ans (evC F (cf F) tin kn ke kr [(0, d), (1, v), (5, m), (6, .int .i64 i), (7, t)] g []) Q := by
  have hil := (List.getElem?_eq_some_iff.1 hx).1
  simp (disch := first | omega | (simp only [newRow_size, Array.size_setIfInBounds, Array.size_push]; done) | (simp only [newRow_size, Array.size_setIfInBounds, Array.size_push]; omega)) [tin, r36_7]
  refine loop_rule (fun mm e g2 => ∃ (k : Nat) (t2 : Value) (b2 : Nat) (cs2 : List Value) (an2 : List Nat), mm = x.tags.length - k ∧ k ≤ x.tags.length ∧ e = [(0, d), (1, v), (5, m), (6, .int .i64 i), (7, t2), (8, .int .i64 k)] ∧ Lay 1 g2 t2 k b2 cs2 an2 ∧ cs2.take k = intsV (x.tags.take k) ∧ Kept g g2 (b :: an) ∧ (b2 = b ∨ g.size ≤ b2) ∧ (∀ c ∈ an2, c = b ∨ c ∈ an ∨ g.size ≤ c) ∧ (b2 :: an2).Nodup ∧ (∀ c ∈ an2, c < g2.size)) ?_ _ x.tags.length _ _ (by omega) ⟨0, t, b, cs, an, by omega, by omega, rfl, lt, by simp [intsV], Kept.refl _ _, .inl rfl, fun c hc => .inr (.inl hc), hnd, han⟩
  rintro mm e g2 again ⟨k, t2, b2, cs2, an2, rfl, hkl, rfl, l2, c2, k2, q2, a2, nb2, w2⟩ ih
  have sg := SlTgd.imp sl (ok' := okL) (fun _ _ q => q) (keep_of k2.c hL)
  obtain ⟨b', o, c, cs', es, lv, an', rfl, hk', hg, hle, hR⟩ := sg.at' hx
  obtain ⟨vt, _, _, e4, st⟩ := hd_at hR hle
  have hln := st.len
  have hw : IntKind.i64.wrap ((k : Int) + 1) = ((k + 1 : Nat) : Int) := by rw [IntKind.wrap_i64]; omega
  have hgs := lt_of_get hg
  by_cases hlt : k < x.tags.length
  · obtain ⟨n, hn⟩ : ∃ n, x.tags[k]? = some n := ⟨_, List.getElem?_eq_getElem hlt⟩
    obtain ⟨bt, ot, ct, cst, est, lvt, ant, rfl, hkt, hgt, hlet, hRt⟩ := st.at' hn
    simp only [Nat.mul_one, IntC] at hlet hRt
    have hgts := lt_of_get hgt
    simp (disch := first | omega | (simp only [newRow_size, Array.size_setIfInBounds, Array.size_push]; done) | (simp only [newRow_size, Array.size_setIfInBounds, Array.size_push]; omega)) [l36_11, r36_8, hg, e4, hln, eqT, eqF, neT, neF, ltT, ltF, leT, leF, nltT, nltF, nleT, nleF, nneT, nneF, List.getElem?_cons_zero, List.getElem?_cons_succ, r36_9, hgt, hRt, srcOf]
    have kR := rowKept g2 [.int .i64 n] 1 []
    have lR : Lay 1 (Ev.newRow g2 [.int .i64 n] 1 []) t2 k b2 cs2 an2 := by
      obtain ⟨c, e1, e2, e3, e4⟩ := l2
      exact ⟨c, e1, (kR.get (lt_of_get e2) (by simp)).trans e2, e3, e4⟩
    refine Ans.next (lR.app (bytes := 8) (new := [.int .i64 n]) (List.nodup_cons.1 nb2).1 rfl rfl (by omega)) ?_
    rintro t3 g3 ⟨b3, cs3, an3, l3, c3, q3, k3⟩
    have y2 := k2.1
    have hb2 : b2 < g2.size := by
      obtain ⟨_, _, e2, _⟩ := l2
      exact lt_of_get e2
    simp (disch := first | omega | (simp only [newRow_size, Array.size_setIfInBounds, Array.size_push]; done) | (simp only [newRow_size, Array.size_setIfInBounds, Array.size_push]; omega)) [r36_10, hw]
    refine ih (x.tags.length - (k + 1)) _ _ (by omega) ⟨k + 1, t3, b3, cs3, an3, rfl, by omega, rfl, l3, ?_, ?_, ?_, ?_, ?_, ?_⟩
    · rw [Nat.mul_one, Nat.mul_one] at c3
      rw [c3, c2, take_snoc hn]; simp [intsV]
    · refine ⟨by have := kR.1; have := k3.1; omega, fun c hc hn => ?_⟩
      simp only [List.mem_cons, not_or] at hn
      refine (k3.get (by simp; omega) ?_).trans ((kR.get (by omega) (by simp)).trans (k2.get hc (by simp [hn])))
      simp only [List.mem_cons, not_or]
      refine ⟨?_, fun h3 => ?_⟩
      · rcases q2 with rfl | q2
        · exact hn.1
        · omega
      · rcases a2 c h3 with rfl | h4 | h4
        · exact hn.1 rfl
        · exact hn.2 h4
        · omega
    · rcases q3 with ⟨rfl, _⟩ | ⟨rfl, _⟩
      · exact q2
      · right; simp; omega
    · rcases q3 with ⟨_, rfl, _⟩ | ⟨_, rfl, _⟩
      · simp
      · intro c hc
        rcases List.mem_cons.1 hc with rfl | hc
        · rcases q2 with q2 | q2
          · exact .inl q2
          · exact .inr (.inr q2)
        · exact a2 c hc
    · rcases q3 with ⟨_, rfl, _⟩ | ⟨rfl, rfl, _⟩
      · simp
      · rw [List.nodup_cons]
        refine ⟨fun hc => ?_, nb2⟩
        simp only [newRow_size] at hc
        rcases List.mem_cons.1 hc with hc | hc
        · omega
        · have := w2 _ hc
          omega
    · have y3 := k3.1
      simp only [newRow_size] at y3
      rcases q3 with ⟨_, rfl, _⟩ | ⟨_, rfl, _⟩
      · simp
      · intro c hc
        rcases List.mem_cons.1 hc with rfl | hc
        · omega
        · have := w2 _ hc
          omega
  · have hkk : k = x.tags.length := by omega
    subst hkk
    rw [List.take_length] at c2
    simp (disch := first | omega | (simp only [newRow_size, Array.size_setIfInBounds, Array.size_push]; done) | (simp only [newRow_size, Array.size_setIfInBounds, Array.size_push]; omega)) [l36_11, r36_8, hg, e4, hln, eqT, eqF, neT, neF, ltT, ltF, leT, leF, nltT, nltF, nleT, nleF, nneT, nneF, List.getElem?_cons_zero, List.getElem?_cons_succ]
    exact hk _ _ _ _ _ _ l2 c2 k2 q2 a2 nb2 w2

end Go.Proofs.Ytkkagpchcefidaa

/- The desk: one half of it (a list of rows, and a list of lists), and what stays of it. -/
set_option linter.unusedSimpArgs false
set_option linter.unusedVariables false
namespace Go.Ev

theorem Lay.kept {w : Nat} {h h' : H} {v : Value} {n b : Nat} {cs : List Value} {an L : List Nat} (s : Lay w h v n b cs an) (k : Kept h h' L) (hb : b ∉ L) : Lay w h' v n b cs an := by
  obtain ⟨c, e1, e2, e3, e4⟩ := s
  exact ⟨c, e1, (k.get (lt_of_get e2) hb).trans e2, e3, e4⟩
theorem Lay.lt {w : Nat} {h : H} {v : Value} {n b : Nat} {cs : List Value} {an : List Nat} (s : Lay w h v n b cs an) : b < h.size := by
  obtain ⟨c, e1, e2, e3, e4⟩ := s
  exact lt_of_get e2
theorem Lay.len {w : Nat} {h : H} {v : Value} {n b : Nat} {cs : List Value} {an : List Nat} (s : Lay w h v n b cs an) : n * w ≤ cs.length := by
  obtain ⟨c, e1, e2, e3, e4⟩ := s
  rw [e3]
  exact Nat.mul_le_mul_right _ e4

/-- A list that may be none yet. -/
def LayO (w : Nat) (h : H) (v : Value) (n : Nat) (own : List Nat) (cs : List Value) : Prop :=
  (v = .slice none 0 0 ∧ n = 0 ∧ own = [] ∧ cs = []) ∨ ∃ b an, own = b :: an ∧ Lay w h v n b cs an

theorem LayO.kept {w : Nat} {h h' : H} {v : Value} {n : Nat} {own : List Nat} {cs : List Value} {L : List Nat} (s : LayO w h v n own cs) (k : Kept h h' L) (hb : ∀ c ∈ own, c ∉ L) : LayO w h' v n own cs := by
  rcases s with s | ⟨b, an, rfl, s⟩
  · exact .inl s
  · exact .inr ⟨b, an, rfl, s.kept k (hb b (by simp))⟩

/-- One element put behind. -/
theorem LayO.app {w : Nat} {h : H} {v : Value} {n : Nat} {own : List Nat} {cs : List Value} {bytes : Nat} (s : LayO w h v n own cs) (hnd : own.Nodup) {new : List Value} (hn : new.length = w) (ho : new.all oneCell = true) (hb : (n + 1) * bytes ≤ 2 ^ 47) :
    Ans (appendTo h w bytes v 1 new) fun v' h' => ∃ own' cs', LayO w h' v' (n + 1) own' cs' ∧ cs'.take ((n + 1) * w) = cs.take (n * w) ++ new ∧ own' ≠ [] ∧ (∀ c ∈ own', c ∈ own ∨ c = h.size) ∧ ((∀ c ∈ own, c < h.size) → own'.Nodup) ∧ ((∀ c ∈ own, c < h.size) → ∀ e ∈ own', e < h'.size) ∧ Kept h h' own := by
  rcases s with ⟨rfl, rfl, rfl, rfl⟩ | ⟨b, an, rfl, s⟩
  · have hb' : bytes ≤ 140737488355328 := by simpa using hb
    refine ⟨.slice (some ⟨h.size, 0, none⟩) 1 1, newRow h new w [], by simp [appendTo, hb'], [h.size], new, .inr ⟨h.size, [], rfl, 1, rfl, by simp, by simp [hn], Nat.le_refl _⟩, by rw [List.take_of_length_le (by simp [hn])]; simp, by simp, by simp, by simp, by simp, rowKept _ _ _ _⟩
  · have hlt := s.lt
    refine (s.app (List.nodup_cons.1 hnd).1 hn ho hb).mono ?_
    rintro v' h' ⟨b', cs', an', l', c', q', k'⟩
    refine ⟨b' :: an', cs', .inr ⟨b', an', rfl, l'⟩, c', by simp, ?_, ?_, ?_, k'⟩
    · rcases q' with ⟨rfl, rfl, _⟩ | ⟨rfl, rfl, _⟩
      · intro c hc
        simp at hc; subst hc; simp
      · intro c hc
        rcases List.mem_cons.1 hc with rfl | hc
        · exact .inr rfl
        · exact .inl hc
    · intro hall
      rcases q' with ⟨rfl, rfl, _⟩ | ⟨rfl, rfl, _⟩
      · simp
      · rw [List.nodup_cons]
        exact ⟨fun hc => by have := hall _ hc; omega, hnd⟩
    · intro hall e he
      rcases q' with ⟨rfl, rfl, z⟩ | ⟨rfl, rfl, z⟩
      · simp at he; subst he; omega
      · rcases List.mem_cons.1 he with rfl | he
        · omega
        · have := hall e he
          omega

/-- Lists, each in memory of its own. -/
def Ents (w : Nat) (h : H) : List Value → List (List Nat) → Prop
  | [], [] => True
  | e :: es, o :: os => (∃ n t cs an, o = t :: an ∧ Lay w h e n t cs an) ∧ Ents w h es os
  | _, _ => False

theorem Ents.kept {w : Nat} {h h' : H} {L : List Nat} (k : Kept h h' L) : ∀ {es : List Value} {os : List (List Nat)}, Ents w h es os → (∀ c ∈ os.flatten, c ∉ L) → Ents w h' es os
  | [], [], _, _ => trivial
  | e :: es, o :: os, ⟨⟨n, t, cs, an, e1, l⟩, r⟩, hL => by
    subst e1
    exact ⟨⟨n, t, cs, an, rfl, l.kept k (hL t (by simp))⟩, Ents.kept k r (fun c hc => hL c (by simp only [List.flatten_cons, List.mem_append]; exact .inr hc))⟩
  | [], _ :: _, h, _ => h.elim
  | _ :: _, [], h, _ => h.elim

theorem Ents.len {w : Nat} {h : H} : ∀ {es : List Value} {os : List (List Nat)}, Ents w h es os → es.length = os.length
  | [], [], _ => rfl
  | _ :: _, _ :: _, ⟨_, r⟩ => by simp [Ents.len r]
  | [], _ :: _, h => h.elim
  | _ :: _, [], h => h.elim

theorem Ents.at' {w : Nat} {h : H} : ∀ {es : List Value} {os : List (List Nat)}, Ents w h es os → ∀ {i : Nat} {e : Value}, es[i]? = some e → ∃ n t cs an, os[i]? = some (t :: an) ∧ Lay w h e n t cs an
  | e :: es, o :: os, ⟨⟨n, t, cs, an, e1, l⟩, r⟩, 0, e', he => by
    simp at he
    subst he e1
    exact ⟨n, t, cs, an, rfl, l⟩
  | e :: es, o :: os, ⟨_, r⟩, i + 1, e', he => by
    obtain ⟨n, t, cs, an, h1, h2⟩ := Ents.at' r (i := i) (e := e') (by simpa using he)
    exact ⟨n, t, cs, an, by simpa using h1, h2⟩
  | [], [], _, i, e, he => by simp at he
  | [], _ :: _, h, _, _, _ => h.elim
  | _ :: _, [], h, _, _, _ => h.elim

theorem Ents.snoc {w : Nat} {h : H} {e : Value} {n t : Nat} {cs : List Value} {an : List Nat} (l : Lay w h e n t cs an) : ∀ {es : List Value} {os : List (List Nat)}, Ents w h es os → Ents w h (es ++ [e]) (os ++ [t :: an])
  | [], [], _ => ⟨⟨n, t, cs, an, rfl, l⟩, trivial⟩
  | _ :: _, _ :: _, ⟨a, r⟩ => ⟨a, Ents.snoc l r⟩
  | [], _ :: _, h => h.elim
  | _ :: _, [], h => h.elim

theorem Ents.set {w : Nat} {h : H} {e : Value} {n t : Nat} {cs : List Value} {an : List Nat} (l : Lay w h e n t cs an) : ∀ {es : List Value} {os : List (List Nat)}, Ents w h es os → ∀ (i : Nat), Ents w h (es.set i e) (os.set i (t :: an))
  | [], [], _, _ => trivial
  | _ :: _, _ :: _, ⟨_, r⟩, 0 => ⟨⟨n, t, cs, an, rfl, l⟩, r⟩
  | _ :: _, _ :: _, ⟨a, r⟩, i + 1 => ⟨a, Ents.set l r i⟩
  | [], _ :: _, h, _ => h.elim
  | _ :: _, [], h, _ => h.elim

end Go.Ev

/- Half a desk: rows (tagged changes or parts) and the lists that they point at. -/
set_option linter.unusedSimpArgs false
set_option linter.unusedVariables false
namespace Go.Ev

/-- From one state to the next: only owned blocks change, and what is owned then is owned already, or new. -/
def Moves (h h' : H) (O O' : List Nat) : Prop := Kept h h' O ∧ ∀ c ∈ O', c ∈ O ∨ h.size ≤ c

theorem Moves.refl (h : H) (O : List Nat) : Moves h h O O := ⟨Kept.refl _ _, fun _ q => .inl q⟩
theorem Moves.trans {h h1 h2 : H} {O O1 O2 : List Nat} (a : Moves h h1 O O1) (b : Moves h1 h2 O1 O2) : Moves h h2 O O2 := by
  refine ⟨⟨Nat.le_trans a.1.1 b.1.1, fun c hc hn => ?_⟩, fun c hc => ?_⟩
  · refine (b.1.get (Nat.lt_of_lt_of_le hc a.1.1) (fun q => ?_)).trans (a.1.get hc hn)
    rcases a.2 c q with q | q
    · exact hn q
    · omega
  · rcases b.2 c hc with q | q
    · exact a.2 c q
    · have := a.1.1
      exact .inr (by omega)
theorem Moves.cons {h h' : H} {O O' : List Nat} (a : Moves h h' O O') (d : Nat) : Moves h h' (d :: O) (d :: O') := by
  refine ⟨a.1.weak (fun c q => List.mem_cons_of_mem _ q), fun c hc => ?_⟩
  rcases List.mem_cons.1 hc with rfl | hc
  · exact .inl (by simp)
  · rcases a.2 c hc with q | q
    · exact .inl (List.mem_cons_of_mem _ q)
    · exact .inr q
theorem Moves.of {h h' : H} {L O : List Nat} (k : Kept h h' L) (hL : ∀ c ∈ L, c ∈ O) : Moves h h' O O := ⟨k.weak hL, fun _ q => .inl q⟩
theorem Moves.right {h h' : H} {O O' : List Nat} (a : Moves h h' O O') (R : List Nat) : Moves h h' (O ++ R) (O' ++ R) := by
  refine ⟨a.1.weak (fun c q => List.mem_append_left _ q), fun c hc => ?_⟩
  rcases List.mem_append.1 hc with hc | hc
  · rcases a.2 c hc with q | q
    · exact .inl (List.mem_append_left _ q)
    · exact .inr q
  · exact .inl (List.mem_append_right _ hc)
theorem Moves.left {h h' : H} {O O' : List Nat} (a : Moves h h' O O') (R : List Nat) : Moves h h' (R ++ O) (R ++ O') := by
  refine ⟨a.1.weak (fun c q => List.mem_append_right _ q), fun c hc => ?_⟩
  rcases List.mem_append.1 hc with hc | hc
  · exact .inl (List.mem_append_left _ hc)
  · rcases a.2 c hc with q | q
    · exact .inl (List.mem_append_right _ q)
    · exact .inr q
/-- What is not owned stays so. -/
theorem Moves.out {h h' : H} {O O' : List Nat} (a : Moves h h' O O') {c : Nat} (hc : c < h.size) (hn : c ∉ O) : c ∉ O' := fun q => by
  rcases a.2 c q with q | q
  · exact hn q
  · omega

structure Half (ww : Nat) (h : H) (tg tgs : Value) (n N : Nat) (o1 o3 : List Nat) (cs es : List Value) (ps : List (List Nat)) : Prop where
  rows : LayO 5 h tg n o1 cs
  lists : LayO 1 h tgs N o3 es
  ents : Ents ww h (es.take N) ps
  nd : (o1 ++ o3 ++ ps.flatten).Nodup
  lt : ∀ c ∈ o1 ++ o3 ++ ps.flatten, c < h.size

theorem Half.kept {ww : Nat} {h h' : H} {tg tgs : Value} {n N : Nat} {o1 o3 : List Nat} {cs es : List Value} {ps : List (List Nat)} {L : List Nat} (s : Half ww h tg tgs n N o1 o3 cs es ps) (k : Kept h h' L) (hL : ∀ c ∈ o1 ++ o3 ++ ps.flatten, c ∉ L) : Half ww h' tg tgs n N o1 o3 cs es ps := by
  have h1 : ∀ c ∈ o1, c ∉ L := fun c hc => hL c (by simp [hc])
  have h2 : ∀ c ∈ o3, c ∉ L := fun c hc => hL c (by simp [hc])
  have h3 : ∀ c ∈ ps.flatten, c ∉ L := fun c hc => hL c (by simp only [List.mem_append]; exact .inr hc)
  exact ⟨s.rows.kept k h1, s.lists.kept k h2, s.ents.kept k h3, s.nd, fun c hc => Nat.lt_of_lt_of_le (s.lt c hc) k.1⟩

theorem Half.new (ww : Nat) (h : H) : Half ww h (.slice none 0 0) (.slice none 0 0) 0 0 [] [] [] [] [] :=
  ⟨.inl ⟨rfl, rfl, rfl, rfl⟩, .inl ⟨rfl, rfl, rfl, rfl⟩, trivial, by simp, by simp⟩

end Go.Ev

/- The areas of a queue's items, enlarged. -/
set_option linter.unusedSimpArgs false
set_option linter.unusedVariables false
namespace Go.Proofs.Ytkkagpchcefidaa
open Go.Ev

theorem QAt.imp {ok ok' : Nat → Prop} {h : H} {b : Nat} {lk : Int} {r : Option Nat} {first : Nat} {q : Qm} (s : QAt ok h b lk r first q) (h1 : ∀ c, c < h.size → ok c → ok' c) (hb : ¬ ok' b) (hr : ∀ c, r = some c → ¬ ok' c) : QAt ok' h b lk r first q := by
  refine ⟨s.at', s.no, ?_, hb⟩
  intro c e
  obtain ⟨a1, a2, a3, a4, cs, a5, a6⟩ := s.yes c e
  exact ⟨a1, a2, a3, hr c e, cs, a5, a6.1, fun k x hx => ItmC.imp (a6.2 k x hx) h1 (fun _ _ _ e => e)⟩

/-- What stands now of an area that may grow. -/
theorem QAt.now {ok : Nat → Prop} {h : H} {b : Nat} {lk : Int} {r : Option Nat} {first : Nat} {q : Qm} (s : QAt ok h b lk r first q) : QAt (fun c => ok c ∧ c < h.size) h b lk r first q :=
  s.imp (fun c hc q => ⟨q, hc⟩) (fun q => s.okb q.1) (fun c e q => by
    obtain ⟨_, _, _, a4, _⟩ := s.yes c e
    exact a4 q.1)

theorem RefC.now {ok : Nat → Prop} {h : H} {cs : List Value} {q : Qm} (s : RefC ok h cs q) : RefC (fun c => ok c ∧ c < h.size) h cs q :=
  s.imp (fun c hc q => ⟨q, hc⟩) (fun _ _ _ e => e)

end Go.Proofs.Ytkkagpchcefidaa

/- Half a desk gets one list more. -/
set_option linter.unusedSimpArgs false
set_option linter.unusedVariables false
namespace Go.Ev

theorem Half.more {ww : Nat} {h h2 : H} {tg tgs e : Value} {n N t : Nat} {o1 o3 : List Nat} {cs es zs : List Value} {ps : List (List Nat)} (s : Half ww h tg tgs n N o1 o3 cs es ps)
    (k : Kept h h2 []) (ht : h.size ≤ t) (le : Lay ww h2 e 0 t zs []) (ho : oneCell e = true) (hN : (N + 1) * 24 ≤ 2 ^ 47) :
    Ans (appendTo h2 1 24 tgs 1 [e]) fun v' h' => ∃ o3' es', Half ww h' tg v' n (N + 1) o1 o3' cs es' (ps ++ [[t]]) ∧ es'.take (N + 1) = es.take N ++ [e] ∧ Moves h h' (o1 ++ o3 ++ ps.flatten) (o1 ++ o3' ++ (ps ++ [[t]]).flatten) ∧ Kept h2 h' o3 := by
  have hls := s.lists.kept k (by simp)
  have hnd := s.nd
  have hlt := s.lt
  have htl := le.lt
  have n3 : o3.Nodup := by
    rw [List.nodup_append] at hnd
    have := hnd.1
    rw [List.nodup_append] at this
    exact this.2.1
  refine (hls.app n3 (new := [e]) rfl (by show (oneCell e && true) = true; rw [ho]; rfl) hN).mono ?_
  rintro v' h' ⟨o3', es', l', c', hne, hmem, hnd', hlt', k'⟩
  have l3 : ∀ c ∈ o3, c < h.size := fun c hc => hlt c (by simp [hc])
  have l1 : ∀ c ∈ o1, c < h.size := fun c hc => hlt c (by simp [hc])
  have lp : ∀ c ∈ ps.flatten, c < h.size := fun c hc => hlt c (by simp only [List.mem_append]; exact .inr hc)
  have y := k.1
  have m3 : ∀ c ∈ o3, c < h2.size := fun c hc => Nat.lt_of_lt_of_le (l3 c hc) y
  have nd' := hnd' m3
  have lt' := hlt' m3
  rw [Nat.mul_one, Nat.mul_one] at c'
  have d13 : ∀ c ∈ o1, c ∉ o3 := by
    rw [List.nodup_append] at hnd
    have := hnd.1
    rw [List.nodup_append] at this
    exact fun c hc h3 => this.2.2 c hc c h3 rfl
  have d3p : ∀ c ∈ ps.flatten, c ∉ o3 := by
    rw [List.nodup_append] at hnd
    exact fun c hc h3 => hnd.2.2 c (by simp [h3]) c hc rfl
  have d1p : ∀ c ∈ o1, c ∉ ps.flatten := by
    rw [List.nodup_append] at hnd
    exact fun c hc h3 => hnd.2.2 c (by simp [hc]) c h3 rfl
  have np : ps.flatten.Nodup := by
    rw [List.nodup_append] at hnd
    exact hnd.2.1
  have n1 : o1.Nodup := by
    rw [List.nodup_append] at hnd
    have := hnd.1
    rw [List.nodup_append] at this
    exact this.1
  have hto3 : t ∉ o3 := fun q => by have := l3 t q; omega
  have y' := k'.1
  refine ⟨o3', es', ⟨(s.rows.kept k (by simp)).kept k' d13, l', ?_, ?_, ?_⟩, c', ?_, k'⟩
  · rw [c']
    exact ((s.ents.kept k (by simp)).kept k' d3p).snoc (le.kept k' hto3)
  · rw [List.flatten_append, List.nodup_append, List.nodup_append, List.nodup_append]
    refine ⟨⟨n1, nd', ?_⟩, ⟨np, by simp, ?_⟩, ?_⟩
    · rintro a ha b hb rfl
      rcases hmem a hb with q | q
      · exact d13 a ha q
      · have := l1 a ha; omega
    · rintro a ha b hb rfl
      simp at hb
      have := lp a ha
      omega
    · rintro a ha b hb rfl
      rw [List.mem_append] at ha hb
      have hat : a = t ∨ a ∈ ps.flatten := by
        rcases hb with hb | hb
        · exact .inr hb
        · simp at hb; exact .inl hb
      rcases ha with ha | ha
      · rcases hat with rfl | q
        · have := l1 _ ha; omega
        · exact d1p a ha q
      · rcases hmem a ha with q | q
        · rcases hat with rfl | q2
          · exact hto3 q
          · exact d3p a q2 q
        · rcases hat with rfl | q2
          · omega
          · have := lp a q2; omega
  · intro c hc
    simp only [List.mem_append, List.flatten_append] at hc
    rcases hc with (hc | hc) | hc | hc
    · have := l1 c hc; omega
    · exact lt' c hc
    · have := lp c hc; omega
    · simp at hc; subst hc; omega
  · refine ⟨⟨by omega, fun c hc hn => ?_⟩, fun c hc => ?_⟩
    · simp only [List.mem_append, not_or] at hn
      exact (k'.get (by omega) hn.1.2).trans (k.get hc (by simp))
    · simp only [List.mem_append, List.flatten_append] at hc ⊢
      rcases hc with (hc | hc) | hc | hc
      · exact .inl (.inl (.inl hc))
      · rcases hmem c hc with q | q
        · exact .inl (.inl (.inr q))
        · exact .inr (by omega)
      · exact .inl (.inr hc)
      · simp at hc; subst hc; exact .inr ht

end Go.Ev

/- Half a desk gets one row more. -/
set_option linter.unusedSimpArgs false
set_option linter.unusedVariables false
namespace Go.Ev

theorem Half.row {ww : Nat} {h : H} {tg tgs : Value} {n N : Nat} {o1 o3 : List Nat} {cs es new : List Value} {ps : List (List Nat)} (s : Half ww h tg tgs n N o1 o3 cs es ps)
    (hn : new.length = 5) (ho : new.all oneCell = true) {bytes : Nat} (hN : (n + 1) * bytes ≤ 2 ^ 47) :
    Ans (appendTo h 5 bytes tg 1 new) fun v' h' => ∃ o1' cs', Half ww h' v' tgs (n + 1) N o1' o3 cs' es ps ∧ cs'.take ((n + 1) * 5) = cs.take (n * 5) ++ new ∧ Moves h h' (o1 ++ o3 ++ ps.flatten) (o1' ++ o3 ++ ps.flatten) ∧ Kept h h' o1 := by
  have hnd := s.nd
  have hlt := s.lt
  rw [List.nodup_append] at hnd
  obtain ⟨hnd13, np, d13p⟩ := hnd
  rw [List.nodup_append] at hnd13
  obtain ⟨n1, n3, d13⟩ := hnd13
  refine (s.rows.app n1 hn ho hN).mono ?_
  rintro v' h' ⟨o1', cs', l', c', hne, hmem, hnd', hlt', k'⟩
  have l3 : ∀ c ∈ o3, c < h.size := fun c hc => hlt c (by simp [hc])
  have l1 : ∀ c ∈ o1, c < h.size := fun c hc => hlt c (by simp [hc])
  have lp : ∀ c ∈ ps.flatten, c < h.size := fun c hc => hlt c (by simp only [List.mem_append]; exact .inr hc)
  have nd' := hnd' l1
  have lt' := hlt' l1
  have y' := k'.1
  refine ⟨o1', cs', ⟨l', s.lists.kept k' (fun c hc h1 => d13 c h1 c hc rfl), s.ents.kept k' (fun c hc h1 => d13p c (by simp [h1]) c hc rfl), ?_, ?_⟩, c', ?_, k'⟩
  · rw [List.nodup_append, List.nodup_append]
    refine ⟨⟨nd', n3, ?_⟩, np, ?_⟩
    · rintro a ha b hb rfl
      rcases hmem a ha with q | q
      · exact d13 a q a hb rfl
      · have := l3 a hb; omega
    · rintro a ha b hb rfl
      rcases List.mem_append.1 ha with ha | ha
      · rcases hmem a ha with q | q
        · exact d13p a (by simp [q]) a hb rfl
        · have := lp a hb; omega
      · exact d13p a (by simp [ha]) a hb rfl
  · intro c hc
    simp only [List.mem_append] at hc
    rcases hc with (hc | hc) | hc
    · exact lt' c hc
    · have := l3 c hc; omega
    · have := lp c hc; omega
  · have m1 : Moves h h' o1 o1' := ⟨k', fun c hc => by
      rcases hmem c hc with q | q
      · exact .inl q
      · exact .inr (by omega)⟩
    exact (m1.right o3).right ps.flatten

end Go.Ev

/- Lists of owned blocks; an entry of half a desk exchanged, or written to. -/
set_option linter.unusedSimpArgs false
set_option linter.unusedVariables false
namespace Go.Ev

def Owns (h : H) (O : List (List Nat)) : Prop := O.flatten.Nodup ∧ ∀ c ∈ O.flatten, c < h.size

section
variable {h h' : H} {O : List (List Nat)} {i j : Nat} {o o' : List Nat}

theorem Owns.lt (s : Owns h O) (hi : O[i]? = some o) : ∀ c ∈ o, c < h.size := fun c hc => s.2 c (List.mem_flatten.2 ⟨o, List.mem_of_getElem? hi, hc⟩)
theorem Owns.nd (s : Owns h O) (hi : O[i]? = some o) : o.Nodup := (List.pairwise_flatten.1 s.1).1 o (List.mem_of_getElem? hi)
theorem Owns.disj (s : Owns h O) (hi : O[i]? = some o) (hj : O[j]? = some o') (hij : i ≠ j) : ∀ c ∈ o, c ∉ o' := by
  have p := (List.pairwise_flatten.1 s.1).2
  rw [List.pairwise_iff_getElem] at p
  obtain ⟨i1, i2⟩ := List.getElem?_eq_some_iff.1 hi
  obtain ⟨j1, j2⟩ := List.getElem?_eq_some_iff.1 hj
  intro c hc hc'
  rcases Nat.lt_or_gt_of_ne hij with hlt | hlt
  · have := p i j i1 j1 hlt
    rw [i2, j2] at this
    exact this c hc c hc' rfl
  · have := p j i j1 i1 hlt
    rw [i2, j2] at this
    exact this c hc' c hc rfl

theorem mem_flatten_get {c : Nat} : c ∈ O.flatten ↔ ∃ (j : Nat) (o : List Nat), O[j]? = some o ∧ c ∈ o := by
  rw [List.mem_flatten]
  constructor
  · rintro ⟨o, h1, h2⟩
    obtain ⟨j, hj⟩ := List.getElem?_of_mem h1
    exact ⟨j, o, hj, h2⟩
  · rintro ⟨j, o, h1, h2⟩
    exact ⟨o, List.mem_of_getElem? h1, h2⟩

theorem mem_flatten_set {c : Nat} (hi : O[i]? = some o) (hm : ∀ c ∈ o', c ∈ o ∨ h.size ≤ c) (hc : c ∈ (O.set i o').flatten) : c ∈ O.flatten ∨ h.size ≤ c := by
  obtain ⟨j, q, h1, h2⟩ := mem_flatten_get.1 hc
  by_cases hij : i = j
  · subst hij
    rw [List.getElem?_set_self (List.getElem?_eq_some_iff.1 hi).1] at h1
    cases h1
    rcases hm c h2 with r | r
    · exact .inl (mem_flatten_get.2 ⟨i, o, hi, r⟩)
    · exact .inr r
  · rw [List.getElem?_set_ne hij] at h1
    exact .inl (mem_flatten_get.2 ⟨j, q, h1, h2⟩)

theorem Owns.set (s : Owns h O) (hi : O[i]? = some o) (hz : h.size ≤ h'.size) (nd : o'.Nodup) (hm : ∀ c ∈ o', c ∈ o ∨ h.size ≤ c) (hl : ∀ c ∈ o', c < h'.size) : Owns h' (O.set i o') := by
  have hil := (List.getElem?_eq_some_iff.1 hi).1
  have key : ∀ (j : Nat) (q : List Nat), (O.set i o')[j]? = some q → (j = i ∧ q = o') ∨ (j ≠ i ∧ O[j]? = some q) := by
    intro j q hq
    by_cases hij : i = j
    · subst hij
      rw [List.getElem?_set_self hil] at hq
      cases hq
      exact .inl ⟨rfl, rfl⟩
    · rw [List.getElem?_set_ne hij] at hq
      exact .inr ⟨fun e => hij e.symm, hq⟩
  have far : ∀ (j : Nat) (q : List Nat), j ≠ i → O[j]? = some q → ∀ c ∈ o', c ∉ q := by
    intro j q hj hq c hc hc'
    rcases hm c hc with r | r
    · exact s.disj hi hq (by omega) c r hc'
    · have := s.lt hq c hc'
      omega
  constructor
  · unfold List.Nodup
    rw [List.pairwise_flatten]
    constructor
    · intro q hq
      obtain ⟨j, hj⟩ := List.getElem?_of_mem hq
      rcases key j q hj with ⟨_, rfl⟩ | ⟨_, hj⟩
      · exact nd
      · exact s.nd hj
    · rw [List.pairwise_iff_getElem]
      intro a b ha hb hab x hx y hy
      rintro rfl
      have ea := List.getElem?_eq_getElem ha
      have eb := List.getElem?_eq_getElem hb
      rcases key a _ ea with ⟨rfl, q⟩ | ⟨n1, q1⟩
      · rcases key b _ eb with ⟨rfl, q'⟩ | ⟨n2, q2⟩
        · omega
        · rw [q] at hx
          exact far b _ n2 q2 x hx hy
      · rcases key b _ eb with ⟨rfl, q'⟩ | ⟨n2, q2⟩
        · rw [q'] at hy
          exact far a _ n1 q1 x hy hx
        · exact s.disj q1 q2 (by omega) x hx hy
  · intro c hc
    obtain ⟨j, q, h1, h2⟩ := mem_flatten_get.1 hc
    rcases key j q h1 with ⟨_, rfl⟩ | ⟨_, h1⟩
    · exact hl c h2
    · have := s.lt h1 c h2
      omega
end

theorem Ents.get {w : Nat} {h : H} : ∀ {es : List Value} {os : List (List Nat)}, Ents w h es os → ∀ {i : Nat} {o : List Nat}, os[i]? = some o → ∃ e n t cs an, es[i]? = some e ∧ o = t :: an ∧ Lay w h e n t cs an
  | e :: es, o :: os, ⟨⟨n, t, cs, an, e1, l⟩, r⟩, 0, o', ho => by
    simp at ho
    subst ho
    exact ⟨e, n, t, cs, an, rfl, e1, l⟩
  | e :: es, o :: os, ⟨_, r⟩, i + 1, o', ho => by
    obtain ⟨e', n, t, cs, an, h1, h2⟩ := Ents.get r (i := i) (o := o') (by simpa using ho)
    exact ⟨e', n, t, cs, an, by simpa using h1, h2⟩
  | [], [], _, i, o, ho => by simp at ho
  | [], _ :: _, h, _, _, _ => h.elim
  | _ :: _, [], h, _, _, _ => h.elim

/-- The others stay where one list's memory changes. -/
theorem Ents.swap {w : Nat} {h h' : H} {e : Value} {n t : Nat} {cs : List Value} {an o : List Nat} (k : Kept h h' o) (l : Lay w h' e n t cs an) : ∀ {es : List Value} {os : List (List Nat)}, Ents w h es os → ∀ {i : Nat}, os[i]? = some o → (∀ j q, os[j]? = some q → j ≠ i → ∀ c ∈ q, c ∉ o) → Ents w h' (es.set i e) (os.set i (t :: an))
  | [], [], _, _, _, _ => trivial
  | e1 :: es, o1 :: os, ⟨a, r⟩, 0, hi, hd => by
    simp only [List.getElem?_cons_zero, Option.some.injEq] at hi
    subst hi
    refine ⟨⟨n, t, cs, an, rfl, l⟩, r.kept k ?_⟩
    intro c hc
    obtain ⟨j, q, h1, h2⟩ := mem_flatten_get.1 hc
    exact hd (j + 1) q (by simpa using h1) (by omega) c h2
  | e1 :: es, o1 :: os, ⟨⟨n1, t1, cs1, an1, x1, l1⟩, r⟩, i + 1, hi, hd => by
    subst x1
    refine ⟨⟨n1, t1, cs1, an1, rfl, l1.kept k (hd 0 (t1 :: an1) rfl (by omega) t1 (by simp))⟩, Ents.swap k l r (i := i) (by simpa using hi) ?_⟩
    intro j q hj hji
    exact hd (j + 1) q (by simpa using hj) (by omega)
  | [], _ :: _, h, _, _, _ => h.elim
  | _ :: _, [], h, _, _, _ => h.elim

section
variable {ww : Nat} {h h2 : H} {tg tgs : Value} {n N : Nat} {o1 o3 : List Nat} {cs es : List Value} {ps : List (List Nat)}

theorem Half.owns (s : Half ww h tg tgs n N o1 o3 cs es ps) : Owns h (o1 :: o3 :: ps) := by
  have := s.nd
  have l := s.lt
  rw [List.append_assoc] at this l
  exact ⟨this, l⟩
theorem Owns.half {O : List (List Nat)} (s : Owns h (o1 :: o3 :: O)) : (o1 ++ o3 ++ O.flatten).Nodup ∧ ∀ c ∈ o1 ++ o3 ++ O.flatten, c < h.size := by
  rw [List.append_assoc]
  exact s

/-- Entry i: a list elsewhere, or the same list written to. -/
theorem Half.swap (s : Half ww h tg tgs n N o1 o3 cs es ps) {i t n' : Nat} {o an zs : List Nat} {e : Value} {ys : List Value} (hi : ps[i]? = some o) (k : Kept h h2 o) (le : Lay ww h2 e n' t ys an) (nd : (t :: an).Nodup) (hm : ∀ c ∈ t :: an, c ∈ o ∨ h.size ≤ c) (hl : ∀ c ∈ an, c < h2.size) :
    LayO 5 h2 tg n o1 cs ∧ LayO 1 h2 tgs N o3 es ∧ Ents ww h2 ((es.take N).set i e) (ps.set i (t :: an)) ∧ Owns h2 (o1 :: o3 :: ps.set i (t :: an)) ∧ Moves h h2 (o1 ++ o3 ++ ps.flatten) (o1 ++ o3 ++ (ps.set i (t :: an)).flatten) := by
  have ow := s.owns
  have hi2 : (o1 :: o3 :: ps)[i + 2]? = some o := hi
  have ow2 : Owns h2 (o1 :: o3 :: ps.set i (t :: an)) := ow.set (i := i + 2) (o' := t :: an) hi k.1 nd hm (by
    intro c hc
    rcases List.mem_cons.1 hc with rfl | hc
    · exact le.lt
    · exact hl c hc)
  refine ⟨s.rows.kept k (ow.disj (i := 0) rfl hi2 (by omega)), s.lists.kept k (ow.disj (i := 1) rfl hi2 (by omega)), s.ents.swap k le hi ?_, ow2, ?_⟩
  · intro j q hj hji
    exact ow.disj (i := j + 2) (j := i + 2) hj hi2 (by omega)
  · have m : Moves h h2 ps.flatten (ps.set i (t :: an)).flatten := ⟨k.weak (fun c hc => mem_flatten_get.2 ⟨i, o, hi, hc⟩), fun c hc => mem_flatten_set hi hm hc⟩
    exact m.left _

/-- Entry i written to where it lies. -/
theorem Half.poke (s : Half ww h tg tgs n N o1 o3 cs es ps) {i t n' : Nat} {o an : List Nat} {e : Value} {ys : List Value} (hi : ps[i]? = some o) (k : Kept h h2 o) (he : (es.take N)[i]? = some e) (le : Lay ww h2 e n' t ys an) (nd : (t :: an).Nodup) (hm : ∀ c ∈ t :: an, c ∈ o ∨ h.size ≤ c) (hl : ∀ c ∈ an, c < h2.size) :
    Half ww h2 tg tgs n N o1 o3 cs es (ps.set i (t :: an)) ∧ Moves h h2 (o1 ++ o3 ++ ps.flatten) (o1 ++ o3 ++ (ps.set i (t :: an)).flatten) := by
  obtain ⟨a1, a2, a3, a4, a5⟩ := s.swap (zs := []) hi k le nd hm hl
  obtain ⟨b1, b2⟩ := a4.half
  refine ⟨⟨a1, a2, ?_, b1, b2⟩, a5⟩
  have : (es.take N).set i e = es.take N := by
    obtain ⟨x, y⟩ := List.getElem?_eq_some_iff.1 he
    rw [← y, List.set_getElem_self]
  rwa [this] at a3

/-- Entry i given back. -/
theorem Half.give (s : Half ww h tg tgs n N o1 o3 cs es ps) {i t n' : Nat} {o an : List Nat} {e : Value} {ys : List Value} (hi : ps[i]? = some o) (k : Kept h h2 o) (le : Lay ww h2 e n' t ys an) (nd : (t :: an).Nodup) (hm : ∀ c ∈ t :: an, c ∈ o ∨ h.size ≤ c) (hl : ∀ c ∈ an, c < h2.size) :
    ∃ T an3 c, o3 = T :: an3 ∧ tgs = .slice (some ⟨T, 0, none⟩) N c ∧ hget h2 T = some (.cells es 1 true an3) ∧ es.length = c ∧ N ≤ c ∧ i < N ∧
      Half ww ((kill h2 an3).setIfInBounds T (.cells (es.take i ++ e :: es.drop (i + 1)) 1 true [])) tg tgs n N o1 [T] cs (es.take i ++ e :: es.drop (i + 1)) (ps.set i (t :: an)) ∧
      Moves h ((kill h2 an3).setIfInBounds T (.cells (es.take i ++ e :: es.drop (i + 1)) 1 true [])) (o1 ++ o3 ++ ps.flatten) (o1 ++ [T] ++ (ps.set i (t :: an)).flatten) ∧
      Kept h2 ((kill h2 an3).setIfInBounds T (.cells (es.take i ++ e :: es.drop (i + 1)) 1 true [])) o3 := by
  obtain ⟨a1, a2, a3, a4, a5⟩ := s.swap (zs := []) hi k le nd hm hl
  obtain ⟨e0, n0, t0, cs0, an0, he0, _, _⟩ := s.ents.get hi
  have hiN : i < N ∧ i < es.length := by
    have := (List.getElem?_eq_some_iff.1 he0).1
    rw [List.length_take] at this
    omega
  rcases a2 with ⟨_, rfl, _, _⟩ | ⟨T, an3, rfl, c, rfl, hT, hc, hNc⟩
  · omega
  rw [Nat.mul_one] at hc
  obtain ⟨kk, zk⟩ := kill_kept an3 h2
  have hTs := lt_of_get hT
  have eset : es.take i ++ e :: es.drop (i + 1) = es.set i e := by
    rw [List.set_eq_take_append_cons_drop, if_pos hiN.2]
  refine ⟨T, an3, c, rfl, rfl, hT, hc, hNc, hiN.1, ?_⟩
  rw [eset]
  generalize hh3 : (kill h2 an3).setIfInBounds T (.cells (es.set i e) 1 true []) = h3
  have k3 : Kept h2 h3 (T :: an3) := by
    subst hh3
    refine ⟨by simp [zk], fun d hd hn => ?_⟩
    simp only [List.mem_cons, not_or] at hn
    have n1 : ¬ T = d := fun e => hn.1 e.symm
    rw [set_other n1]
    exact kk.get hd hn.2
  have g3 : hget h3 T = some (.cells (es.set i e) 1 true []) := by
    subst hh3
    simp [zk, hTs]
  have ow3 : Owns h3 (o1 :: [T] :: ps.set i (t :: an)) := a4.set (i := 1) (o' := [T]) rfl k3.1 (by simp) (by simp) (by
    intro c hc
    simp at hc
    subst hc
    exact lt_of_get g3)
  obtain ⟨b1, b2⟩ := ow3.half
  refine ⟨⟨a1.kept k3 (a4.disj (i := 0) (j := 1) rfl rfl (by omega)), .inr ⟨T, [], rfl, c, rfl, g3, by simp; omega, hNc⟩, ?_, b1, b2⟩, ?_, k3⟩
  · rw [List.take_set]
    refine a3.kept k3 ?_
    intro d hd
    obtain ⟨j, q, h1, h2⟩ := mem_flatten_get.1 hd
    exact a4.disj (i := j + 2) (j := 1) h1 rfl (by omega) d h2
  · have m : Moves h2 h3 (T :: an3) [T] := ⟨k3, by simp⟩
    exact a5.trans ((m.left o1).right _)
end

end Go.Ev

/- The rows that lie on the desk; one step of twin and twins, without the code. -/
set_option linter.unusedSimpArgs false
set_option linter.unusedVariables false
namespace Go.Ev

theorem LayO.lenV {w : Nat} {h : H} {v : Value} {n : Nat} {own : List Nat} {cs : List Value} (s : LayO w h v n own cs) : lenV v = some (.int .i64 n) := by
  rcases s with ⟨rfl, rfl, _⟩ | ⟨b, an, _, c, rfl, _⟩ <;> simp [Ev.lenV]
theorem LayO.one {w : Nat} {h : H} {v : Value} {n : Nat} {own : List Nat} {cs : List Value} (s : LayO w h v n own cs) : oneCell v = true := by
  rcases s with ⟨rfl, rfl, _⟩ | ⟨b, an, _, c, rfl, _⟩ <;> rfl

theorem LayO.vc {w : Nat} {h : H} {v : Value} {n : Nat} {own : List Nat} {cs : List Value} (s : LayO w h v n own cs) : vcells v = some [v] := by
  rcases s with ⟨rfl, rfl, _⟩ | ⟨b, an, _, c, rfl, _⟩ <;> rfl
theorem Lay.lenV {w : Nat} {h : H} {v : Value} {n b : Nat} {cs : List Value} {an : List Nat} (s : Lay w h v n b cs an) : lenV v = some (.int .i64 n) := by
  obtain ⟨c, rfl, _⟩ := s
  simp [Ev.lenV]

theorem Lay.app2 {w : Nat} {h : H} {v : Value} {n b : Nat} {cs : List Value} {an : List Nat} {bytes : Nat} (s : Lay w h v n b cs an) (hnd : (b :: an).Nodup) (han : ∀ c ∈ an, c < h.size) {new : List Value} (hn : new.length = w) (ho : new.all oneCell = true) (hb : (n + 1) * bytes ≤ 2 ^ 47) :
    Ans (appendTo h w bytes v 1 new) fun v' h' => ∃ b' cs' an', Lay w h' v' (n + 1) b' cs' an' ∧ cs'.take ((n + 1) * w) = cs.take (n * w) ++ new ∧ Moves h h' (b :: an) (b' :: an') ∧ (b' :: an').Nodup ∧ (∀ c ∈ an', c < h'.size) := by
  have hbs := s.lt
  refine (s.app (List.nodup_cons.1 hnd).1 hn ho hb).mono ?_
  rintro v' h' ⟨b', cs', an', l', c', q', k'⟩
  have y := k'.1
  refine ⟨b', cs', an', l', c', ⟨k', ?_⟩, ?_, ?_⟩
  · rcases q' with ⟨rfl, rfl, _⟩ | ⟨rfl, rfl, _⟩
    · intro c hc
      simp at hc; subst hc; simp
    · intro c hc
      rcases List.mem_cons.1 hc with rfl | hc
      · exact .inr (Nat.le_refl _)
      · exact .inl hc
  · rcases q' with ⟨rfl, rfl, _⟩ | ⟨rfl, rfl, _⟩
    · simp
    · rw [List.nodup_cons]
      refine ⟨fun hc => ?_, hnd⟩
      rcases List.mem_cons.1 hc with hc | hc
      · omega
      · have := han _ hc; omega
  · rcases q' with ⟨rfl, rfl, z⟩ | ⟨rfl, rfl, z⟩
    · simp
    · intro c hc
      rcases List.mem_cons.1 hc with rfl | hc
      · omega
      · have := han c hc; omega

/-- A kind of rows: how many cells an element of a row's list has, the row, the list's contents and length, and what lies behind it. -/
structure Kd (α : Type) where
  ww : Nat
  row : α → Value → List Value
  con : α → List Value
  cnt : α → Nat
  room : List Value

section
variable {α : Type} (K : Kd α)

def Rowed (g : H) (l : List α) (cs : List Value) (ps : List (List Nat)) (i : Nat) : Prop :=
  ∀ (j : Nat) (x : α), j < i → l[j]? = some x → ∃ t an zs c, ps[j]? = some (t :: an) ∧ (cs.drop (j * 5)).take 5 = K.row x (.slice (some ⟨t, 0, none⟩) (K.cnt x) c) ∧ hget g t = some (.cells zs K.ww true an) ∧ zs.length = c * K.ww ∧ K.cnt x < c ∧ zs.take ((K.cnt x + 1) * K.ww) = K.con x ++ K.room

variable {K}

theorem row_of_take {cs cs' : List Value} {i j : Nat} (h : cs'.take (i * 5) = cs.take (i * 5)) (hj : j < i) : (cs'.drop (j * 5)).take 5 = (cs.drop (j * 5)).take 5 := by
  have e : ∀ zs : List Value, (zs.drop (j * 5)).take 5 = ((zs.take (i * 5)).drop (j * 5)).take 5 := by
    intro zs
    rw [List.drop_take, List.take_take]
    congr 1
    omega
  rw [e cs', e cs, h]

theorem Rowed.keep {g g' : H} {l : List α} {cs cs' : List Value} {ps ps' : List (List Nat)} {i : Nat} (s : Rowed K g l cs ps i) (hcs : cs'.take (i * 5) = cs.take (i * 5)) (hps : ∀ j, j < i → ∀ t an, ps[j]? = some (t :: an) → ps'[j]? = some (t :: an) ∧ hget g' t = hget g t) : Rowed K g' l cs' ps' i := by
  intro j x hj hx
  obtain ⟨t, an, zs, c, h1, h2, h3, h4⟩ := s j x hj hx
  obtain ⟨p1, p2⟩ := hps j hj t an h1
  exact ⟨t, an, zs, c, p1, (row_of_take hcs hj).trans h2, p2.trans h3, h4⟩

theorem Rowed.snoc {g : H} {l : List α} {cs cs0 : List Value} {ps : List (List Nat)} {i : Nat} (s : Rowed K g l cs ps i) {x : α} (hx : l[i]? = some x) {t c : Nat} {an : List Nat} {zs new : List Value} (hcs : cs.take ((i + 1) * 5) = cs0.take (i * 5) ++ new) (hl : (cs0.take (i * 5)).length = i * 5) (hn : new = K.row x (.slice (some ⟨t, 0, none⟩) (K.cnt x) c)) (hn5 : new.length = 5)
    (h1 : ps[i]? = some (t :: an)) (h3 : hget g t = some (.cells zs K.ww true an)) (h4 : zs.length = c * K.ww) (h5 : K.cnt x < c) (h6 : zs.take ((K.cnt x + 1) * K.ww) = K.con x ++ K.room) : Rowed K g l cs ps (i + 1) := by
  intro j y hj hy
  rcases Nat.lt_or_ge j i with hji | hji
  · exact s j y hji hy
  · have : j = i := by omega
    subst this
    rw [hx] at hy
    cases hy
    refine ⟨t, an, zs, c, h1, ?_, h3, h4, h5, h6⟩
    have e : (cs.drop (j * 5)).take 5 = ((cs.take ((j + 1) * 5)).drop (j * 5)).take 5 := by
      rw [List.drop_take, List.take_take]
      congr 1
      omega
    rw [e, hcs, List.drop_append_of_le_length (by omega), List.drop_of_length_le (by omega), List.nil_append, List.take_of_length_le (by omega)]
    exact hn

/-- In the middle of laying. -/
structure TwI (K : Kd α) (g0 : H) (d : Nat) (O0 : List Nat) (l : List α) (g : H) (i : Nat) (m tgs : Value) (N : Nat) (o1 o3 : List Nat) (cs es : List Value) (ps : List (List Nat)) : Prop where
  half : Half K.ww g m tgs i N o1 o3 cs es ps
  le : i ≤ N
  rowed : Rowed K g l cs ps i
  mv : Moves g0 g (d :: O0) (d :: (o1 ++ o3 ++ ps.flatten))
  hd : d ∉ o1 ++ o3 ++ ps.flatten
  dlt : d < g.size

theorem TwI.pslen {g0 g : H} {d i N : Nat} {O0 o1 o3 : List Nat} {l : List α} {m tgs : Value} {cs es : List Value} {ps : List (List Nat)} (s : TwI K g0 d O0 l g i m tgs N o1 o3 cs es ps) : ps.length = N := by
  have h1 := s.half.ents.len
  rw [List.length_take] at h1
  rcases s.half.lists with ⟨_, rfl, _, rfl⟩ | ⟨b, an, _, c, _, _, h3, h4⟩
  · simpa using h1.symm
  · rw [Nat.mul_one] at h3
    omega

/-- Heaps that agree where the desk lies. -/
theorem TwI.frame {g0 g g' : H} {d i N : Nat} {O0 o1 o3 : List Nat} {l : List α} {m tgs : Value} {cs es : List Value} {ps : List (List Nat)} (s : TwI K g0 d O0 l g i m tgs N o1 o3 cs es ps) (k : Kept g g' [d]) : TwI K g0 d O0 l g' i m tgs N o1 o3 cs es ps := by
  have hd' : ∀ c ∈ o1 ++ o3 ++ ps.flatten, c ∉ [d] := by
    intro c hc hc'
    simp at hc'
    subst hc'
    exact s.hd hc
  refine ⟨s.half.kept k hd', s.le, ?_, s.mv.trans (Moves.of k (by simp)), s.hd, Nat.lt_of_lt_of_le s.dlt k.1⟩
  refine s.rowed.keep rfl fun j hj t an h => ⟨h, ?_⟩
  have ht : t ∈ ps.flatten := mem_flatten_get.2 ⟨j, _, h, by simp⟩
  exact k.get (s.half.lt t (by simp only [List.mem_append]; exact .inr ht)) (hd' t (by simp only [List.mem_append]; exact .inr ht))

/-- One list more. -/
theorem TwI.more {g0 g g2 : H} {d i N t : Nat} {O0 o1 o3 : List Nat} {l : List α} {m tgs e : Value} {cs es zs : List Value} {ps : List (List Nat)} (s : TwI K g0 d O0 l g i m tgs N o1 o3 cs es ps)
    (k : Kept g g2 []) (ht : g.size ≤ t) (le : Lay K.ww g2 e 0 t zs []) (ho : oneCell e = true) (hN : (N + 1) * 24 ≤ 2 ^ 47) :
    Ans (appendTo g2 1 24 tgs 1 [e]) fun v' g' => oneCell v' = true ∧ vcells v' = some [v'] ∧ hget g' d = hget g d ∧ (d < g'.size) ∧ ∃ o3' es' ps', TwI K g0 d O0 l g' i m v' (N + 1) o1 o3' cs es' ps' := by
  have hz := s.dlt
  refine (s.half.more k ht le ho hN).mono ?_
  rintro v' g' ⟨o3', es', h', e', mv', k'⟩
  have y := k'.1
  have y0 := k.1
  have hd3 : d ∉ o3 := fun q => s.hd (by simp [q])
  refine ⟨h'.lists.one, h'.lists.vc, (k'.get (by omega) hd3).trans (k.get hz (by simp)), by omega, o3', es', ps ++ [[t]], h', by have := s.le; omega, ?_, s.mv.trans (mv'.cons d), mv'.out hz s.hd, by omega⟩
  refine s.rowed.keep rfl fun j hj t' an h => ⟨?_, ?_⟩
  · rw [List.getElem?_append_left (List.getElem?_eq_some_iff.1 h).1]
    exact h
  · have hp : t' ∈ ps.flatten := mem_flatten_get.2 ⟨j, _, h, by simp⟩
    have hlt := s.half.lt t' (by simp only [List.mem_append]; exact .inr hp)
    refine (k'.get (by omega) (fun q => ?_)).trans (k.get hlt (by simp))
    exact s.half.owns.disj (i := j + 2) (j := 1) h rfl (by omega) t' (by simp) q

end

end Go.Ev

/- Desk.twin: the list for entry i made, if need be. -/
set_option linter.unusedSimpArgs false
set_option linter.unusedVariables false
namespace Go.Proofs.Ytkkagpchcefidaa
open Go.Ev

theorem _root_.Go.Ev.LayO.sameV {w : Nat} {h : H} {v : Value} {n : Nat} {own : List Nat} {cs : List Value} (s : LayO w h v n own cs) : Ev.sameV v v = true := by
  rcases s with ⟨rfl, rfl, _⟩ | ⟨b, an, _, c, rfl, _⟩ <;> simp [Ev.sameV, sameCell]

def KT : Kd Tgd := ⟨1, fun x v => [.int .i64 x.chg.kind, .string x.chg.place, .string x.chg.data, .int .i64 x.chg.ver, v], fun x => intsV x.tags, fun x => x.tags.length, [.int .i64 777]⟩

def tpre : ACode := (.seq (.region r36_4 [0, 1, 5, 6, 26]) (.cond (.tmp 26) (.regionD d36_5 [(4, [7])] [0, 1, 5, 6]) .skip))
def tpost : ACode := (.seq (.region r36_12 [0, 1, 5, 6, 7]) (.seq (.region r36_13 [0, 1, 5, 6, 7]) (.regionD d36_14 [] [0, 1, 5, 6])))
theorem l36_cut : l36_16 = (.seq (.seq (.region r36_3 [0, 1, 5, 6, 17]) (.cond (.tmp 17) .skip (.exit 0))) (.seq (.block 1 (.seq tpre (.seq (.region r36_6 [0, 1, 5, 6, 7]) (.seq tin tpost)))) (.region r36_15 [0, 1, 5, 6]))) := rfl

theorem tpre_spec {F : Nat} {g0 g : H} {d i N : Nat} {O0 o1 o3 : List Nat} {l : List Tgd} {v m tgs tg0 pt nds : Value} {cs es : List Value} {ps : List (List Nat)} (s : TwI KT g0 d O0 l g i m tgs N o1 o3 cs es ps)
    (hd : hget g d = some (.cells [tg0, pt, tgs, nds] 0 true [])) (hi : i ≤ 1048576)
    {kn kr : K} {ke : Nat → K} {Q : Value → H → Prop}
    (hk : ∀ g2 tgs2 N2 o3' es' ps' (e : Env), TwI KT g0 d O0 l g2 i m tgs2 N2 o1 o3' cs es' ps' → hget g2 d = some (.cells [tg0, pt, tgs2, nds] 0 true []) → i < N2 →
      Ans (kn ((0, .pointer (some ⟨d, 0, none⟩)) :: (1, v) :: (5, m) :: (6, .int .i64 i) :: e) g2 []) Q) :
    Ans (evC F (cf F) tpre kn ke kr [(0, .pointer (some ⟨d, 0, none⟩)), (1, v), (5, m), (6, .int .i64 i)] g []) Q := by
  have hl := s.half.lists.lenV
  have hds := s.dlt
  have hsv := s.half.lists.sameV
  have hone := s.half.lists.one
  simp only [oneCell] at hone
  by_cases hlt : i < N
  · simp (disch := first | omega | (simp only [newRow_size, Array.size_setIfInBounds, Array.size_push]; done) | (simp only [newRow_size, Array.size_setIfInBounds, Array.size_push]; omega)) [tpre, r36_4, hd, hl, eqT, eqF, neT, neF, ltT, ltF, leT, leF, nltT, nltF, nleT, nleF, nneT, nneF, List.getElem?_cons_zero, List.getElem?_cons_succ]
    exact hk _ _ _ _ _ _ _ s hd hlt
  · have : i = N := by have := s.le; omega
    subst this
    simp (disch := first | omega | (simp only [newRow_size, Array.size_setIfInBounds, Array.size_push]; done) | (simp only [newRow_size, Array.size_setIfInBounds, Array.size_push]; omega)) [tpre, r36_4, hd, hl, eqT, eqF, neT, neF, ltT, ltF, leT, leF, nltT, nltF, nleT, nleF, nneT, nneF, List.getElem?_cons_zero, List.getElem?_cons_succ, d36_5, dk_go, chks_nil, chks_cons, chkA_nil, chkA_cons, chk1_no, chk1_yes, chkV_some, hAt_eq, hOf_some, hOf_none, hsv, srcOf]
    have hk0 : Kept g (Ev.newRow (Ev.newRow g [.int .i64 0, .int .i64 0, .int .i64 0, .int .i64 0, .int .i64 0, .int .i64 0, .int .i64 0, .int .i64 0] 1 []) [.slice (some ⟨g.size, 0, none⟩) 0 8] 1 []) [] := (rowKept _ _ _ _).trans (rowKept _ _ _ _)
    refine Ans.nextD (s.more (t := g.size) (zs := [.int .i64 0, .int .i64 0, .int .i64 0, .int .i64 0, .int .i64 0, .int .i64 0, .int .i64 0, .int .i64 0]) hk0 (Nat.le_refl _) ⟨8, rfl, by simp; rfl, rfl, by omega⟩ rfl (by omega)) ?_
    rintro v' g' ⟨hv', hvc, hgd, hdl, o3', es', ps', s'⟩
    simp only [oneCell] at hv'
    simp only [vcells] at hvc
    rw [hd] at hgd
    simp (disch := first | omega | (simp only [newRow_size, Array.size_setIfInBounds, Array.size_push]; done) | (simp only [newRow_size, Array.size_setIfInBounds, Array.size_push]; omega)) [hgd, hd, hv', hvc, eqT, eqF, neT, neF, ltT, ltF, leT, leF, nltT, nltF, nleT, nleF, nneT, nneF, List.getElem?_cons_zero, List.getElem?_cons_succ, dk_go, chks_nil, chks_cons, chkA_nil, chkA_cons, chk1_no, chk1_yes, chkV_some, hAt_eq, hOf_some, hOf_none, hsv]
    refine hk _ _ _ _ _ _ _ (s'.frame ?_) ?_ (by omega)
    · exact ⟨by simp, fun c hc hn => set_other (fun e => hn (by simp [e]))⟩
    · simp [hdl]

end Go.Proofs.Ytkkagpchcefidaa

/- One step of laying: the entry given back, the row put behind. -/
set_option linter.unusedSimpArgs false
set_option linter.unusedVariables false
namespace Go.Ev

section
variable {α : Type} {K : Kd α} {g0 g h2 : H} {d i N : Nat} {O0 o1 o3 : List Nat} {l : List α} {m tgs : Value} {cs es : List Value} {ps : List (List Nat)}

theorem TwI.entry (s : TwI K g0 d O0 l g i m tgs N o1 o3 cs es ps) (hiN : i < N) : ∃ T an3 c e n c2 t cs2 an, o3 = T :: an3 ∧ tgs = .slice (some ⟨T, 0, none⟩) N c ∧ hget g T = some (.cells es 1 true an3) ∧ es.length = c ∧ N ≤ c ∧ es[i]? = some e ∧ ps[i]? = some (t :: an) ∧ e = .slice (some ⟨t, 0, none⟩) n c2 ∧ Lay K.ww g (.slice (some ⟨t, 0, none⟩) 0 c2) 0 t cs2 an ∧ (t :: an).Nodup ∧ (∀ c ∈ t :: an, c < g.size) ∧ (∀ c ∈ t :: an, c ∈ o1 ++ o3 ++ ps.flatten) := by
  have hp : ∃ o, ps[i]? = some o := ⟨_, List.getElem?_eq_getElem (by have := s.pslen; omega)⟩
  obtain ⟨o, hp⟩ := hp
  obtain ⟨e, n, t, cs2, an, he, rfl, c2, rfl, e2, e3, e4⟩ := s.half.ents.get hp
  rcases s.half.lists with ⟨_, rfl, _, _⟩ | ⟨T, an3, rfl, c, rfl, hT, hc, hNc⟩
  · omega
  have he' : es[i]? = some (.slice (some ⟨t, 0, none⟩) n c2) := by
    rw [List.getElem?_take_of_lt hiN] at he
    exact he
  have ow := s.half.owns
  have hp2 : (o1 :: (T :: an3) :: ps)[i + 2]? = some (t :: an) := hp
  refine ⟨T, an3, c, _, n, c2, t, cs2, an, rfl, rfl, hT, by omega, hNc, he', hp, rfl, ⟨c2, rfl, e2, e3, by omega⟩, ow.nd hp2, ow.lt hp2, ?_⟩
  intro q hq
  simp only [List.mem_append]
  exact .inr (mem_flatten_get.2 ⟨i, _, hp, hq⟩)

theorem TwI.give (s : TwI K g0 d O0 l g i m tgs N o1 o3 cs es ps) (hiN : i < N) {t n' : Nat} {o an : List Nat} {e : Value} {ys : List Value} (hi : ps[i]? = some o) (k : Kept g h2 o) (le : Lay K.ww h2 e n' t ys an) (nd : (t :: an).Nodup) (hm : ∀ c ∈ t :: an, c ∈ o ∨ g.size ≤ c) (hl : ∀ c ∈ an, c < h2.size) :
    ∃ T an3 c, tgs = .slice (some ⟨T, 0, none⟩) N c ∧ hget h2 T = some (.cells es 1 true an3) ∧ es.length = c ∧ N ≤ c ∧ hget h2 d = hget g d ∧ d < h2.size ∧
      TwI K g0 d O0 l ((kill h2 an3).setIfInBounds T (.cells (es.take i ++ e :: es.drop (i + 1)) 1 true [])) i m tgs N o1 [T] cs (es.take i ++ e :: es.drop (i + 1)) (ps.set i (t :: an)) ∧
      hget ((kill h2 an3).setIfInBounds T (.cells (es.take i ++ e :: es.drop (i + 1)) 1 true [])) d = hget g d ∧
      hget ((kill h2 an3).setIfInBounds T (.cells (es.take i ++ e :: es.drop (i + 1)) 1 true [])) t = hget h2 t ∧ (ps.set i (t :: an))[i]? = some (t :: an) ∧ Kept g ((kill h2 an3).setIfInBounds T (.cells (es.take i ++ e :: es.drop (i + 1)) 1 true [])) (o1 ++ o3 ++ ps.flatten) := by
  have hz := s.dlt
  have yk := k.1
  have ow := s.half.owns
  obtain ⟨a1, a2, a3, a4, a5⟩ := s.half.swap (zs := []) hi k le nd hm hl
  obtain ⟨T, an3, c, rfl, e1, e2, e3, e4, e5, hf, mv, k3⟩ := s.half.give hi k le nd hm hl
  have hil := (List.getElem?_eq_some_iff.1 hi).1
  have hdo : d ∉ o := fun q => s.hd (by simp only [List.mem_append]; exact .inr (mem_flatten_get.2 ⟨i, o, hi, q⟩))
  have hd3 : d ∉ T :: an3 := fun q => s.hd (by simp only [List.mem_append]; exact .inl (.inr q))
  have hg2 := k.get hz hdo
  have hg3 := (k3.get (by omega) hd3).trans hg2
  have hpi : (ps.set i (t :: an))[i]? = some (t :: an) := by rw [List.getElem?_set_self hil]
  have ht3 := k3.get le.lt (a4.disj (i := i + 2) (j := 1) (o := t :: an) (by simpa using hpi) rfl (by omega) t (by simp))
  refine ⟨T, an3, c, e1, e2, e3, e4, hg2, by omega, ⟨hf, s.le, ?_, s.mv.trans (mv.cons d), mv.out hz s.hd, by have := k3.1; omega⟩, hg3, ht3, hpi, mv.1⟩
  refine s.rowed.keep rfl fun j hj t' an' h => ⟨?_, ?_⟩
  · rw [List.getElem?_set_ne (by omega)]
    exact h
  · have hp : t' ∈ ps.flatten := mem_flatten_get.2 ⟨j, _, h, by simp⟩
    have hlt := s.half.lt t' (by simp only [List.mem_append]; exact .inr hp)
    refine (k3.get (by omega) ?_).trans (k.get hlt ?_)
    · exact ow.disj (i := j + 2) (j := 1) h rfl (by omega) t' (by simp)
    · exact ow.disj (i := j + 2) (j := i + 2) h hi (by omega) t' (by simp)

theorem TwI.row (s : TwI K g0 d O0 l g i m tgs N o1 o3 cs es ps) (hiN : i < N) {x : α} (hx : l[i]? = some x) {t c bytes : Nat} {an : List Nat} {zs new : List Value} (hn : new = K.row x (.slice (some ⟨t, 0, none⟩) (K.cnt x) c)) (hn5 : new.length = 5) (ho : new.all oneCell = true) (hb : (i + 1) * bytes ≤ 2 ^ 47)
    (h1 : ps[i]? = some (t :: an)) (h3 : hget g t = some (.cells zs K.ww true an)) (h4 : zs.length = c * K.ww) (h5 : K.cnt x < c) (h6 : zs.take ((K.cnt x + 1) * K.ww) = K.con x ++ K.room) :
    Ans (appendTo g 5 bytes m 1 new) fun v' g' => ∃ o1' cs', TwI K g0 d O0 l g' (i + 1) v' tgs N o1' o3 cs' es ps ∧ hget g' d = hget g d := by
  have hz := s.dlt
  have ow := s.half.owns
  have hlen : (cs.take (i * 5)).length = i * 5 := by
    rcases s.half.rows with ⟨_, rfl, _, _⟩ | ⟨b, an, _, l⟩
    · simp
    · have := l.len
      rw [List.length_take]
      omega
  refine (s.half.row hn5 ho hb).mono ?_
  rintro v' g' ⟨o1', cs', hf, hcs, mv, k'⟩
  have y := k'.1
  have key : ∀ (j t' : Nat) (an' : List Nat), ps[j]? = some (t' :: an') → hget g' t' = hget g t' := by
    intro j t' an' h
    have hp : t' ∈ ps.flatten := mem_flatten_get.2 ⟨j, _, h, by simp⟩
    exact k'.get (s.half.lt t' (by simp only [List.mem_append]; exact .inr hp)) (ow.disj (i := j + 2) (j := 0) h rfl (by omega) t' (by simp))
  have hcs1 : cs'.take (i * 5) = cs.take (i * 5) := by
    have e : cs'.take (i * 5) = (cs'.take ((i + 1) * 5)).take (i * 5) := by
      rw [List.take_take]
      congr 1
      omega
    rw [e, hcs, List.take_append_of_le_length (by omega), List.take_of_length_le (by omega)]
  refine ⟨o1', cs', ⟨hf, by omega, ?_, s.mv.trans (mv.cons d), mv.out hz s.hd, by omega⟩, k'.get hz (fun q => s.hd (by simp [q]))⟩
  have r1 : Rowed K g' l cs' ps i := s.rowed.keep hcs1 fun j hj t' an' h => ⟨h, key j t' an' h⟩
  exact r1.snoc hx hcs hlen hn hn5 h1 ((key i t an h1).trans h3) h4 h5 h6

/-- The last row. -/
theorem TwI.last (s : TwI K g0 d O0 l g i m tgs N o1 o3 cs es ps) {bytes : Nat} {new : List Value} (hn5 : new.length = 5) (ho : new.all oneCell = true) (hb : (i + 1) * bytes ≤ 2 ^ 47) :
    Ans (appendTo g 5 bytes m 1 new) fun v' g' => ∃ o1' cs', Half K.ww g' v' tgs (i + 1) N o1' o3 cs' es ps ∧ Rowed K g' l cs' ps i ∧ (cs'.drop (i * 5)).take 5 = new ∧ Moves g0 g' (d :: O0) (d :: (o1' ++ o3 ++ ps.flatten)) ∧ d ∉ o1' ++ o3 ++ ps.flatten ∧ d < g'.size ∧ hget g' d = hget g d := by
  have hz := s.dlt
  have ow := s.half.owns
  have hlen : (cs.take (i * 5)).length = i * 5 := by
    rcases s.half.rows with ⟨_, rfl, _, _⟩ | ⟨b, an, _, l⟩
    · simp
    · have := l.len
      rw [List.length_take]
      omega
  refine (s.half.row hn5 ho hb).mono ?_
  rintro v' g' ⟨o1', cs', hf, hcs, mv, k'⟩
  have y := k'.1
  have key : ∀ (j t' : Nat) (an' : List Nat), ps[j]? = some (t' :: an') → hget g' t' = hget g t' := by
    intro j t' an' h
    have hp : t' ∈ ps.flatten := mem_flatten_get.2 ⟨j, _, h, by simp⟩
    exact k'.get (s.half.lt t' (by simp only [List.mem_append]; exact .inr hp)) (ow.disj (i := j + 2) (j := 0) h rfl (by omega) t' (by simp))
  have hcs1 : cs'.take (i * 5) = cs.take (i * 5) := by
    have e : cs'.take (i * 5) = (cs'.take ((i + 1) * 5)).take (i * 5) := by
      rw [List.take_take]
      congr 1
      omega
    rw [e, hcs, List.take_append_of_le_length (by omega), List.take_of_length_le (by omega)]
  refine ⟨o1', cs', hf, s.rowed.keep hcs1 fun j hj t' an' h => ⟨h, key j t' an' h⟩, ?_, s.mv.trans (mv.cons d), mv.out hz s.hd, by omega, k'.get hz (fun q => s.hd (by simp [q]))⟩
  have e : (cs'.drop (i * 5)).take 5 = ((cs'.take ((i + 1) * 5)).drop (i * 5)).take 5 := by
    rw [List.drop_take, List.take_take]
    congr 1
    omega
  rw [e, hcs, List.drop_append_of_le_length (by omega), List.drop_of_length_le (by omega), List.nil_append, List.take_of_length_le (by omega)]
end

end Go.Ev

/- Desk.twin: one entry given back, and its row. -/
set_option linter.unusedSimpArgs false
set_option linter.unusedVariables false
namespace Go.Proofs.Ytkkagpchcefidaa
open Go.Ev

set_option maxHeartbeats 1000000 in
theorem tpost_spec {F : Nat} {g0 g g2 : H} {d i N : Nat} {O0 o1 o3 o : List Nat} {okL : Nat → Prop} {l : List Tgd} {x : Tgd} {v m tgs tg0 pt nds t2 : Value} {cs es cs2 : List Value} {ps : List (List Nat)} {b2 : Nat} {an2 : List Nat}
    (s : TwI KT g0 d O0 l g i m tgs N o1 o3 cs es ps)
    (hd : hget g d = some (.cells [tg0, pt, tgs, nds] 0 true [])) (hi : i ≤ 1048576) (hiN : i < N) (sl : SlR okL 5 (TgdC okL) g0 v l) (hok : ∀ c ∈ d :: O0, ¬ okL c) (hx : l[i]? = some x) (hs : x.tags.length ≤ 1048576)
    (hp : ps[i]? = some o) (l2 : Lay 1 g2 t2 x.tags.length b2 cs2 an2) (c2 : cs2.take x.tags.length = intsV x.tags) (mv : Moves g g2 o (b2 :: an2)) (nd2 : (b2 :: an2).Nodup) (lt2 : ∀ c ∈ an2, c < g2.size)
    {kn kr : K} {ke : Nat → K} {Q : Value → H → Prop} {e0 : Env}
    (hk : ∀ g3 m' tgs' o1' o3' cs' es' ps', TwI KT g0 d O0 l g3 (i + 1) m' tgs' N o1' o3' cs' es' ps' → hget g3 d = some (.cells [tg0, pt, tgs', nds] 0 true []) →
      Ans (kn [(0, .pointer (some ⟨d, 0, none⟩)), (1, v), (5, m'), (6, .int .i64 i)] g3 []) Q) :
    Ans (evC F (cf F) tpost kn ke kr ((0, .pointer (some ⟨d, 0, none⟩)) :: (1, v) :: (5, m) :: (6, .int .i64 i) :: (7, t2) :: e0) g2 []) Q := by
  have hb2 := l2.lt
  simp (disch := first | omega | (simp only [newRow_size, Array.size_setIfInBounds, Array.size_push]; done) | (simp only [newRow_size, Array.size_setIfInBounds, Array.size_push]; omega)) [tpost, r36_12, srcOf]
  have kR := rowKept g2 [.int .i64 777] 1 []
  have lR : Lay 1 (Ev.newRow g2 [.int .i64 777] 1 []) t2 x.tags.length b2 cs2 an2 := l2.kept kR (by simp)
  refine Ans.next (lR.app2 (bytes := 8) (new := [.int .i64 777]) nd2 (fun c hc => by have := lt2 c hc; simp; omega) rfl rfl (by omega)) ?_
  rintro t3 g3 ⟨b3, cs3, an3, l3, c3, m3, nd3, lt3⟩
  have mt : Moves g g3 o (b3 :: an3) := mv.trans ((Moves.of kR (by simp)).trans m3)
  obtain ⟨T, anT, c, rfl, hT, hc, hNc, hg3d, hd3, s4, hd4, ht4, hp4, _⟩ := s.give hiN hp mt.1 l3 nd3 mt.2 lt3
  rw [hd] at hd4 hg3d
  have hTs := lt_of_get hT
  obtain ⟨ct, rfl, hb3, hl3, hle3⟩ := l3
  have hw : i + (1 + (es.length - (i + 1))) = es.length := by omega
  simp (disch := first | omega | (simp only [newRow_size, Array.size_setIfInBounds, Array.size_push]; done) | (simp only [newRow_size, Array.size_setIfInBounds, Array.size_push]; omega)) [r36_13, hg3d, hT, hd3, eqT, eqF, neT, neF, ltT, ltF, leT, leF, nltT, nltF, nleT, nleF, nneT, nneF, List.getElem?_cons_zero, List.getElem?_cons_succ, wr]
  clear hw
  generalize hh4 : (kill g3 anT).setIfInBounds T (.cells (es.take i ++ .slice (some ⟨b3, 0, none⟩) (x.tags.length + 1) ct :: es.drop (i + 1)) 1 true []) = h4 at s4 hd4 ht4 ⊢
  clear hh4
  have sg := SlTgd.imp sl (ok' := okL) (fun _ _ q => q) (keep_of s4.mv.1.c hok)
  obtain ⟨bL, oL, cL, csL, esL, lvL, anL, rfl, hkL, hgL, hleL, hRL⟩ := sg.at' hx
  obtain ⟨vt, e5, e4, e1, st⟩ := hd_at hRL hleL
  have hln := st.len
  have hgLs := lt_of_get hgL
  have hilx := (List.getElem?_eq_some_iff.1 hx).1
  have hlc : x.tags.length ≤ ct := by omega
  simp (disch := first | omega | (simp only [newRow_size, Array.size_setIfInBounds, Array.size_push]; done) | (simp only [newRow_size, Array.size_setIfInBounds, Array.size_push]; omega)) [d36_14, hgL, e4, e1, hln, eqT, eqF, neT, neF, ltT, ltF, leT, leF, nltT, nltF, nleT, nleF, nneT, nneF, List.getElem?_cons_zero, List.getElem?_cons_succ, srcOf, hlc, slcV, optInt]
  have kR4 : Kept h4 (Ev.newRow h4 [.int .i64 x.chg.kind, .string x.chg.place, .string x.chg.data, .int .i64 x.chg.ver, .slice (some ⟨b3, 0, none⟩) x.tags.length ct] 5 []) [d] := (rowKept _ _ _ _).weak (by simp)
  have hgt4 := ht4.trans hb3
  have hb3s := lt_of_get hgt4
  refine Ans.nextE ((s4.frame kR4).row (new := [.int .i64 x.chg.kind, .string x.chg.place, .string x.chg.data, .int .i64 x.chg.ver, .slice (some ⟨b3, 0, none⟩) x.tags.length ct]) hiN hx (t := b3) (c := ct) (bytes := 72) (an := an3) (zs := cs3) rfl rfl rfl (by omega) hp4 ?_ hl3 hle3 ?_) ?_
  · simp (disch := first | omega | (simp only [newRow_size, Array.size_setIfInBounds, Array.size_push]; done) | (simp only [newRow_size, Array.size_setIfInBounds, Array.size_push]; omega)) [hgt4]
    rfl
  · rw [Nat.mul_one, Nat.mul_one] at c3
    show cs3.take ((x.tags.length + 1) * 1) = intsV x.tags ++ [.int .i64 777]
    rw [Nat.mul_one, c3, c2]
  rintro m' g5 ⟨o1', cs', s5, hd5⟩
  simp (disch := first | omega | (simp only [newRow_size, Array.size_setIfInBounds, Array.size_push]; done) | (simp only [newRow_size, Array.size_setIfInBounds, Array.size_push]; omega)) [eqT, eqF, neT, neF, ltT, ltF, leT, leF, nltT, nltF, nleT, nleF, nneT, nneF, List.getElem?_cons_zero, List.getElem?_cons_succ]
  refine hk _ _ _ _ _ _ _ _ s5 ?_
  exact hd5.trans (((rowKept _ _ _ _).get s4.dlt (by simp)).trans hd4)

end Go.Proofs.Ytkkagpchcefidaa

/- Desk.twin. -/
set_option linter.unusedSimpArgs false
set_option linter.unusedVariables false
namespace Go.Ev

theorem LayO.cut {w : Nat} {h : H} {v : Value} {n : Nat} {own : List Nat} {cs : List Value} (s : LayO w h v n own cs) : ∃ v', slcV w v none (some (.int .i64 0)) = some v' ∧ LayO w h v' 0 own cs := by
  rcases s with ⟨rfl, rfl, rfl, rfl⟩ | ⟨b, an, rfl, c, rfl, h1, h2, h3⟩
  · exact ⟨.slice none 0 0, by simp [slcV, optInt], .inl ⟨rfl, rfl, rfl, rfl⟩⟩
  · exact ⟨.slice (some ⟨b, 0, none⟩) 0 c, by simp [slcV, optInt], .inr ⟨b, an, rfl, c, rfl, h1, h2, by omega⟩⟩

/-- Half a desk, as it stands between two steps; d: the desk's own block. -/
structure AtRest (ww : Nat) (h : H) (d : Nat) (tg tgs : Value) (O : List Nat) : Prop where
  ex : ∃ n N o1 o3 cs es ps, Half ww h tg tgs n N o1 o3 cs es ps ∧ O = o1 ++ o3 ++ ps.flatten
  hd : d ∉ O
  dlt : d < h.size

theorem AtRest.begin' {α : Type} (K : Kd α) {h : H} {d : Nat} {tg tgs : Value} {O : List Nat} (s : AtRest K.ww h d tg tgs O) (l : List α) : ∃ v', slcV 5 tg none (some (.int .i64 0)) = some v' ∧ ∃ N o1 o3 cs es ps, TwI K h d O l h 0 v' tgs N o1 o3 cs es ps := by
  obtain ⟨⟨n, N, o1, o3, cs, es, ps, hf, rfl⟩, hd, dlt⟩ := s
  obtain ⟨v', e, hr⟩ := hf.rows.cut
  exact ⟨v', e, N, o1, o3, cs, es, ps, ⟨hr, hf.lists, hf.ents, hf.nd, hf.lt⟩, by omega, fun j x hj => by omega, Moves.refl _ _, hd, dlt⟩

/-- What has been laid. -/
structure Laid {α : Type} (K : Kd α) (h0 h : H) (d : Nat) (O0 : List Nat) (l : List α) (m tgs : Value) (N : Nat) (o1 o3 : List Nat) (cs es : List Value) (ps : List (List Nat)) (last : List Value) : Prop where
  half : Half K.ww h m tgs (l.length + 1) N o1 o3 cs es ps
  rowed : Rowed K h l cs ps l.length
  last' : (cs.drop (l.length * 5)).take 5 = last
  mv : Moves h0 h (d :: O0) (d :: (o1 ++ o3 ++ ps.flatten))
  hd : d ∉ o1 ++ o3 ++ ps.flatten
  dlt : d < h.size

theorem Laid.frame {α : Type} {K : Kd α} {g0 g g' : H} {d N : Nat} {O0 o1 o3 : List Nat} {l : List α} {m tgs : Value} {cs es last : List Value} {ps : List (List Nat)} (s : Laid K g0 g d O0 l m tgs N o1 o3 cs es ps last) (k : Kept g g' [d]) : Laid K g0 g' d O0 l m tgs N o1 o3 cs es ps last := by
  have hd' : ∀ c ∈ o1 ++ o3 ++ ps.flatten, c ∉ [d] := by
    intro c hc hc'
    simp at hc'
    subst hc'
    exact s.hd hc
  refine ⟨s.half.kept k hd', ?_, s.last', s.mv.trans (Moves.of k (by simp)), s.hd, Nat.lt_of_lt_of_le s.dlt k.1⟩
  refine s.rowed.keep rfl fun j hj t an h => ⟨h, ?_⟩
  have ht : t ∈ ps.flatten := mem_flatten_get.2 ⟨j, _, h, by simp⟩
  exact k.get (s.half.lt t (by simp only [List.mem_append]; exact .inr ht)) (hd' t (by simp only [List.mem_append]; exact .inr ht))

end Go.Ev
namespace Go.Proofs.Ytkkagpchcefidaa
open Go.Ev

def lastT : List Value := [.int .i64 777, .string ⟨#[]⟩, .string ⟨#[]⟩, .int .i64 0, .slice none 0 0]

def TwinP (h : H) (d : Nat) (O : List Nat) (l : List Tgd) (pt nds : Value) (m : Value) (h' : H) : Prop :=
  ∃ tgs N o1 o3 cs es ps, Laid KT h h' d O l m tgs N o1 o3 cs es ps lastT ∧ hget h' d = some (.cells [m, pt, tgs, nds] 0 true [])

set_option maxHeartbeats 1000000 in
theorem twin_spec {F : Nat} (hF : 17592186044431 ≤ F) {h : H} {d : Nat} {O : List Nat} {okL : Nat → Prop} {l : List Tgd} {v tg pt tgs nds : Value} (s : AtRest 1 h d tg tgs O)
    (hd : hget h d = some (.cells [tg, pt, tgs, nds] 0 true [])) (sl : SlR okL 5 (TgdC okL) h v l) (hok : ∀ c ∈ d :: O, ¬ okL c) (hs1 : l.length ≤ 1048576) (hs2 : ∀ x ∈ l, x.tags.length ≤ 1048576) :
    Ans (cf F 36 [.pointer (some ⟨d, 0, none⟩), v] h) (TwinP h d O l pt nds) := by
  generalize hQ : TwinP h d O l pt nds = Q
  replace sl := SlTgd.imp sl (ok' := fun c => okL c ∧ c < h.size) (fun c hc q => ⟨q, hc⟩) (fun _ _ _ e => e)
  replace hok : ∀ c ∈ d :: O, ¬ (okL c ∧ c < h.size) := fun c hc q => hok c hc q.1
  obtain ⟨F, rfl⟩ : ∃ G, F = G + 1 := ⟨F - 1, by omega⟩
  rw [cf_step (a := a36) rfl rfl (by simp [a36])]
  have hl := sl.len
  obtain ⟨m0, hcut, N, o1, o3, cs, es, ps, s0⟩ := AtRest.begin' KT s l
  have hds := s.dlt
  simp (disch := first | omega | (simp only [newRow_size, Array.size_setIfInBounds, Array.size_push]; done) | (simp only [newRow_size, Array.size_setIfInBounds, Array.size_push]; omega)) [a36, r36_0, r36_1, hd, hcut, r36_2]
  refine loop_rule (fun mm e g => ∃ (i : Nat) (m tgs : Value) (N : Nat) (o1 o3 : List Nat) (cs es : List Value) (ps : List (List Nat)), mm = l.length - i ∧ i ≤ l.length ∧ e = [(0, .pointer (some ⟨d, 0, none⟩)), (1, v), (5, m), (6, .int .i64 i)] ∧ TwI KT h d O l g i m tgs N o1 o3 cs es ps ∧ hget g d = some (.cells [tg, pt, tgs, nds] 0 true [])) ?_ _ l.length _ _ (by omega) ⟨0, m0, tgs, N, o1, o3, cs, es, ps, by omega, by omega, rfl, s0, hd⟩
  clear s0
  rintro mm e g again ⟨i, m, tgs, N, o1, o3, cs, es, ps, rfl, hil, rfl, si, hdi⟩ ih
  have hw : IntKind.i64.wrap ((i : Int) + 1) = ((i + 1 : Nat) : Int) := by rw [IntKind.wrap_i64]; omega
  by_cases hlt : i < l.length
  · obtain ⟨x, hx⟩ : ∃ x, l[i]? = some x := ⟨_, List.getElem?_eq_getElem hlt⟩
    rw [l36_cut]
    simp (disch := first | omega | (simp only [newRow_size, Array.size_setIfInBounds, Array.size_push]; done) | (simp only [newRow_size, Array.size_setIfInBounds, Array.size_push]; omega)) [r36_3, hl, eqT, eqF, neT, neF, ltT, ltF, leT, leF, nltT, nltF, nleT, nleF, nneT, nneF, List.getElem?_cons_zero, List.getElem?_cons_succ]
    refine tpre_spec si hdi (by omega) ?_
    intro g2 tgs2 N2 o3' es' ps' e2 s2 hd2 hi2
    obtain ⟨T, an3, c, e, n, c2, t, cs2, an, rfl, rfl, hT, hc, hNc, he, hp, rfl, l2, nd2, lt2, mem2⟩ := s2.entry hi2
    have hcat : (es'.drop i).take 1 = [.slice (some ⟨t, 0, none⟩) n c2] := by
      rw [List.take_one, List.head?_drop, he]; rfl
    have hd2s := s2.dlt
    have hTs := lt_of_get hT
    simp (disch := first | omega | (simp only [newRow_size, Array.size_setIfInBounds, Array.size_push]; done) | (simp only [newRow_size, Array.size_setIfInBounds, Array.size_push]; omega)) [r36_6, hd2, hT, hcat, eqT, eqF, neT, neF, ltT, ltF, leT, leF, nltT, nltF, nleT, nleF, nneT, nneF, List.getElem?_cons_zero, List.getElem?_cons_succ, slcV, optInt]
    have hm2 : ∀ c ∈ t :: an, ¬ (okL c ∧ c < h.size) := by
      intro c hc q
      rcases s2.mv.2 c (List.mem_cons_of_mem _ (mem2 c hc)) with r | r
      · exact hok c r q
      · omega
    have sg := SlTgd.imp sl (ok' := fun c => okL c ∧ c < h.size) (fun _ _ q => q) (keep_of s2.mv.1.c hok)
    refine tin_spec (F := F) (by omega) sg hx (hs2 x (List.mem_of_getElem? hx)) l2 hm2 nd2 (fun c hc => lt2 c (by simp [hc])) ?_
    intro g3 t3 b3 cs3 an3 e3 l3 c3 k3 q3 a3 nd3 w3
    refine tpost_spec s2 hd2 (by omega) hi2 sl hok hx (hs2 x (List.mem_of_getElem? hx)) hp l3 c3 ⟨k3, ?_⟩ nd3 w3 ?_
    · intro c hc
      rcases List.mem_cons.1 hc with rfl | hc
      · rcases q3 with rfl | q3
        · exact .inl (by simp)
        · exact .inr q3
      · rcases a3 c hc with rfl | q | q
        · exact .inl (by simp)
        · exact .inl (by simp [q])
        · exact .inr q
    intro g4 m' tgs' o1' o3' cs' es' ps' s4 hd4
    simp (disch := first | omega | (simp only [newRow_size, Array.size_setIfInBounds, Array.size_push]; done) | (simp only [newRow_size, Array.size_setIfInBounds, Array.size_push]; omega)) [r36_15, hw]
    exact ih (l.length - (i + 1)) _ _ (by omega) ⟨i + 1, m', tgs', N2, o1', o3', cs', es', ps', rfl, by omega, rfl, s4, hd4⟩
  · have : i = l.length := by omega
    subst this
    simp (disch := first | omega | (simp only [newRow_size, Array.size_setIfInBounds, Array.size_push]; done) | (simp only [newRow_size, Array.size_setIfInBounds, Array.size_push]; omega)) [l36_16, r36_3, hl, eqT, eqF, neT, neF, ltT, ltF, leT, leF, nltT, nltF, nleT, nleF, nneT, nneF, List.getElem?_cons_zero, List.getElem?_cons_succ, r36_17, srcOf]
    have kR : Kept g (Ev.newRow g lastT 5 []) [d] := (rowKept _ _ _ _).weak (by simp)
    have hgs := si.dlt
    refine Ans.next ((si.frame kR).last (new := lastT) (bytes := 72) rfl rfl (by omega)) ?_
    rintro m' g2 ⟨o1', cs', hf, hr, hlast, mv, hdn, hdl, hgd⟩
    rw [(rowKept _ _ _ _).get hgs (by simp), hdi] at hgd
    have hvc := hf.rows.vc
    have hto := hf.rows.one
    simp only [vcells] at hvc
    simp only [oneCell] at hto
    simp (disch := first | omega | (simp only [newRow_size, Array.size_setIfInBounds, Array.size_push]; done) | (simp only [newRow_size, Array.size_setIfInBounds, Array.size_push]; omega)) [r36_18, hgd, hvc, hto, r36_19]
    subst hQ
    have k2 : Kept g2 (g2.setIfInBounds d (.cells [m', pt, tgs, nds] 0 true [])) [d] := ⟨by simp, fun c hc hn => set_other (fun e => hn (by simp [e]))⟩
    exact Ans.of ⟨tgs, N, o1', o3, cs', es, ps, Laid.frame ⟨hf, hr, hlast, mv, hdn, hdl⟩ k2, by simp [hdl]⟩

end Go.Proofs.Ytkkagpchcefidaa

/- Desk.twins: the nodes of one part, laid. -/
set_option linter.unusedSimpArgs false
set_option linter.unusedVariables false
namespace Go.Proofs.Ytkkagpchcefidaa
open Go.Ev

def seenV (l : List Seen) : List Value := (l.map Seen.cells).flatten
def roomV : List Value := [.string str114_111_111_109, .string ⟨#[]⟩, .int .i64 0]
def KP : Kd Prt := ⟨3, fun x v => [.int .i64 x.id, .int .i64 x.stamp, .string x.place, .int .i64 x.kind, v], fun x => seenV x.nodes, fun x => x.nodes.length, roomV⟩

def pin : ACode := (.seq (.region r39_8 [0, 1, 5, 6, 7, 8, 9]) (.block 2 (.loop [0, 1, 5, 6, 7, 8, 9] l39_12)))
def ppre : ACode := (.seq (.region r39_4 [0, 1, 5, 6, 27]) (.cond (.tmp 27) (.regionD d39_5 [(4, [7])] [0, 1, 5, 6]) .skip))
def ppost : ACode := (.seq (.region r39_13 [0, 1, 5, 6, 7, 8]) (.seq (.region r39_14 [0, 1, 5, 6, 7, 8]) (.seq (.region r39_15 [0, 1, 5, 6, 7]) (.region r39_16 [0, 1, 5, 6]))))
theorem l39_cut : l39_18 = (.seq (.seq (.region r39_3 [0, 1, 5, 6, 18]) (.cond (.tmp 18) .skip (.exit 0))) (.seq (.block 1 (.seq ppre (.seq (.region r39_6 [0, 1, 5, 6, 7]) (.seq (.region r39_7 [0, 1, 5, 6, 7, 8]) (.seq pin ppost))))) (.region r39_17 [0, 1, 5, 6]))) := rfl

theorem seenV_snoc {l : List Seen} {n : Seen} {k : Nat} (h : l[k]? = some n) : seenV (l.take (k + 1)) = seenV (l.take k) ++ n.cells := by
  rw [take_snoc h]; simp [seenV]

set_option maxHeartbeats 1000000 in
theorem pin_spec {F : Nat} (hF : 17592186044430 ≤ F) {okL : Nat → Prop} {g : H} {v vt : Value} {i : Nat} {x : Prt} (sp : SlR okL 3 SeenC g vt x.nodes) (hs : x.nodes.length ≤ 1048576)
    {d m t : Value} {b pb : Nat} {cs : List Value} {an : List Nat} (lt : Lay 3 g t 0 b cs an) (hL : ∀ c ∈ b :: an, ¬ okL c) (hnd : (b :: an).Nodup) (han : ∀ c ∈ an, c < g.size)
    (hp : hget g pb = some (.cells [.int .i64 x.id, .int .i64 x.stamp, .string x.place, .int .i64 x.kind, vt] 0 true [])) (hpb : pb ∉ b :: an)
    {kn kr : K} {ke : Nat → K} {Q : Value → H → Prop}
    (hk : ∀ g2 t2 b2 cs2 an2 (e : Env), Lay 3 g2 t2 x.nodes.length b2 cs2 an2 → cs2.take (x.nodes.length * 3) = seenV x.nodes → Moves g g2 (b :: an) (b2 :: an2) → (b2 :: an2).Nodup → (∀ c ∈ an2, c < g2.size) →
      Ans (kn ((0, d) :: (1, v) :: (5, m) :: (6, .int .i64 i) :: (7, .pointer (some ⟨pb, 0, none⟩)) :: (8, t2) :: e) g2 []) Q) :
    Ans (evC F (cf F) pin kn ke kr [(0, d), (1, v), (5, m), (6, .int .i64 i), (7, .pointer (some ⟨pb, 0, none⟩)), (8, t)] g []) Q := by
  have hps := lt_of_get hp
  simp (disch := first | omega | (simp only [newRow_size, Array.size_setIfInBounds, Array.size_push]; done) | (simp only [newRow_size, Array.size_setIfInBounds, Array.size_push]; omega)) [pin, r39_8]
  refine loop_rule (fun mm e g2 => ∃ (k : Nat) (t2 : Value) (b2 : Nat) (cs2 : List Value) (an2 : List Nat), mm = x.nodes.length - k ∧ k ≤ x.nodes.length ∧ e = [(0, d), (1, v), (5, m), (6, .int .i64 i), (7, .pointer (some ⟨pb, 0, none⟩)), (8, t2), (9, .int .i64 k)] ∧ Lay 3 g2 t2 k b2 cs2 an2 ∧ cs2.take (k * 3) = seenV (x.nodes.take k) ∧ Moves g g2 (b :: an) (b2 :: an2) ∧ (b2 :: an2).Nodup ∧ (∀ c ∈ an2, c < g2.size)) ?_ _ x.nodes.length _ _ (by omega) ⟨0, t, b, cs, an, by omega, by omega, rfl, lt, by simp [seenV], Moves.refl _ _, hnd, han⟩
  rintro mm e g2 again ⟨k, t2, b2, cs2, an2, rfl, hkl, rfl, l2, c2, m2, nb2, w2⟩ ih
  have st := SlSeen.imp sp (ok' := okL) (fun _ _ q => q) (keep_of m2.1.c hL)
  have hp2 := (m2.1.get hps hpb).trans hp
  have hln := st.len
  have hw : IntKind.i64.wrap ((k : Int) + 1) = ((k + 1 : Nat) : Int) := by rw [IntKind.wrap_i64]; omega
  have y2 := m2.1.1
  by_cases hlt : k < x.nodes.length
  · obtain ⟨n, hn⟩ : ∃ n, x.nodes[k]? = some n := ⟨_, List.getElem?_eq_getElem hlt⟩
    obtain ⟨bt, ot, ct, cst, est, lvt, ant, rfl, hkt, hgt, hlet, hRt⟩ := st.at' hn
    simp only [SeenC, Seen.cells] at hRt
    have hgts := lt_of_get hgt
    simp (disch := first | omega | (simp only [newRow_size, Array.size_setIfInBounds, Array.size_push]; done) | (simp only [newRow_size, Array.size_setIfInBounds, Array.size_push]; omega)) [l39_12, r39_9, hp2, hln, eqT, eqF, neT, neF, ltT, ltF, leT, leF, nltT, nltF, nleT, nleF, nneT, nneF, List.getElem?_cons_zero, List.getElem?_cons_succ, r39_10, hgt, hRt, srcOf]
    have kR := rowKept g2 n.cells 3 []
    have lR : Lay 3 (Ev.newRow g2 n.cells 3 []) t2 k b2 cs2 an2 := l2.kept kR (by simp)
    refine Ans.next (lR.app2 (bytes := 40) (new := n.cells) nb2 (fun c hc => by have := w2 c hc; simp; omega) rfl rfl (by omega)) ?_
    rintro t3 g3 ⟨b3, cs3, an3, l3, c3, m3, nd3, lt3⟩
    simp (disch := first | omega | (simp only [newRow_size, Array.size_setIfInBounds, Array.size_push]; done) | (simp only [newRow_size, Array.size_setIfInBounds, Array.size_push]; omega)) [r39_11, hw]
    refine ih (x.nodes.length - (k + 1)) _ _ (by omega) ⟨k + 1, t3, b3, cs3, an3, rfl, by omega, rfl, l3, ?_, m2.trans ((Moves.of kR (by simp)).trans m3), nd3, lt3⟩
    rw [c3, c2, seenV_snoc hn]
  · have hkk : k = x.nodes.length := by omega
    subst hkk
    rw [List.take_length] at c2
    simp (disch := first | omega | (simp only [newRow_size, Array.size_setIfInBounds, Array.size_push]; done) | (simp only [newRow_size, Array.size_setIfInBounds, Array.size_push]; omega)) [l39_12, r39_9, hp2, hln, eqT, eqF, neT, neF, ltT, ltF, leT, leF, nltT, nltF, nleT, nleF, nneT, nneF, List.getElem?_cons_zero, List.getElem?_cons_succ]
    exact hk _ _ _ _ _ _ l2 c2 m2 nb2 w2

theorem ppre_spec {F : Nat} {g0 g : H} {d i N : Nat} {O0 o1 o3 : List Nat} {l : List Prt} {v m tgs tg pt0 nds : Value} {cs es : List Value} {ps : List (List Nat)} (s : TwI KP g0 d O0 l g i m nds N o1 o3 cs es ps)
    (hd : hget g d = some (.cells [tg, pt0, tgs, nds] 0 true [])) (hi : i ≤ 1048576)
    {kn kr : K} {ke : Nat → K} {Q : Value → H → Prop}
    (hk : ∀ g2 nds2 N2 o3' es' ps' (e : Env), TwI KP g0 d O0 l g2 i m nds2 N2 o1 o3' cs es' ps' → hget g2 d = some (.cells [tg, pt0, tgs, nds2] 0 true []) → i < N2 →
      Ans (kn ((0, .pointer (some ⟨d, 0, none⟩)) :: (1, v) :: (5, m) :: (6, .int .i64 i) :: e) g2 []) Q) :
    Ans (evC F (cf F) ppre kn ke kr [(0, .pointer (some ⟨d, 0, none⟩)), (1, v), (5, m), (6, .int .i64 i)] g []) Q := by
  have hl := s.half.lists.lenV
  have hds := s.dlt
  have hsv := s.half.lists.sameV
  have hone := s.half.lists.one
  simp only [oneCell] at hone
  by_cases hlt : i < N
  · simp (disch := first | omega | (simp only [newRow_size, Array.size_setIfInBounds, Array.size_push]; done) | (simp only [newRow_size, Array.size_setIfInBounds, Array.size_push]; omega)) [ppre, r39_4, hd, hl, eqT, eqF, neT, neF, ltT, ltF, leT, leF, nltT, nltF, nleT, nleF, nneT, nneF, List.getElem?_cons_zero, List.getElem?_cons_succ]
    exact hk _ _ _ _ _ _ _ s hd hlt
  · have : i = N := by have := s.le; omega
    subst this
    simp (disch := first | omega | (simp only [newRow_size, Array.size_setIfInBounds, Array.size_push]; done) | (simp only [newRow_size, Array.size_setIfInBounds, Array.size_push]; omega)) [ppre, r39_4, hd, hl, eqT, eqF, neT, neF, ltT, ltF, leT, leF, nltT, nltF, nleT, nleF, nneT, nneF, List.getElem?_cons_zero, List.getElem?_cons_succ, d39_5, dk_go, chks_nil, chks_cons, chkA_nil, chkA_cons, chk1_no, chk1_yes, chkV_some, hAt_eq, hOf_some, hOf_none, hsv, srcOf]
    generalize hz : [Value.string ⟨#[]⟩, .string ⟨#[]⟩, .int .i64 0, .string ⟨#[]⟩, .string ⟨#[]⟩, .int .i64 0, .string ⟨#[]⟩, .string ⟨#[]⟩, .int .i64 0, .string ⟨#[]⟩, .string ⟨#[]⟩, .int .i64 0, .string ⟨#[]⟩, .string ⟨#[]⟩, .int .i64 0, .string ⟨#[]⟩, .string ⟨#[]⟩, .int .i64 0, .string ⟨#[]⟩, .string ⟨#[]⟩, .int .i64 0, .string ⟨#[]⟩, .string ⟨#[]⟩, .int .i64 0] = z
    have hzl : z.length = 8 * 3 := by rw [← hz]; rfl
    have hk0 : Kept g (Ev.newRow (Ev.newRow g z 3 []) [.slice (some ⟨g.size, 0, none⟩) 0 8] 1 []) [] := (rowKept _ _ _ _).trans (rowKept _ _ _ _)
    refine Ans.nextD (s.more (t := g.size) (zs := z) hk0 (Nat.le_refl _) ⟨8, rfl, by simp; rfl, hzl, by omega⟩ rfl (by omega)) ?_
    rintro v' g' ⟨hv', hvc, hgd, hdl, o3', es', ps', s'⟩
    simp only [oneCell] at hv'
    simp only [vcells] at hvc
    rw [hd] at hgd
    simp (disch := first | omega | (simp only [newRow_size, Array.size_setIfInBounds, Array.size_push]; done) | (simp only [newRow_size, Array.size_setIfInBounds, Array.size_push]; omega)) [hgd, hd, hv', hvc, eqT, eqF, neT, neF, ltT, ltF, leT, leF, nltT, nltF, nleT, nleF, nneT, nneF, List.getElem?_cons_zero, List.getElem?_cons_succ, dk_go, chks_nil, chks_cons, chkA_nil, chkA_cons, chk1_no, chk1_yes, chkV_some, hAt_eq, hOf_some, hOf_none, hsv]
    refine hk _ _ _ _ _ _ _ (s'.frame ?_) ?_ (by omega)
    · exact ⟨by simp, fun c hc hn => set_other (fun e => hn (by simp [e]))⟩
    · simp [hdl]

end Go.Proofs.Ytkkagpchcefidaa

/- Desk.twins: one entry given back, and its row. -/
set_option linter.unusedSimpArgs false
set_option linter.unusedVariables false
namespace Go.Proofs.Ytkkagpchcefidaa
open Go.Ev

theorem _root_.Go.Ev.TwI.frame2 {α : Type} {K : Kd α} {g0 g g' : H} {d i N : Nat} {O0 o1 o3 L : List Nat} {l : List α} {m tgs : Value} {cs es : List Value} {ps : List (List Nat)} (s : TwI K g0 d O0 l g i m tgs N o1 o3 cs es ps) (k : Kept g g' L) (hL : ∀ c ∈ L, c ∉ o1 ++ o3 ++ ps.flatten) (h0 : ∀ c ∈ L, c = d ∨ g0.size ≤ c) : TwI K g0 d O0 l g' i m tgs N o1 o3 cs es ps := by
  have hd' : ∀ c ∈ o1 ++ o3 ++ ps.flatten, c ∉ L := fun c hc hc' => hL c hc' hc
  refine ⟨s.half.kept k hd', s.le, ?_, ⟨⟨Nat.le_trans s.mv.1.1 k.1, fun c hc hn => ?_⟩, s.mv.2⟩, s.hd, Nat.lt_of_lt_of_le s.dlt k.1⟩
  · refine s.rowed.keep rfl fun j hj t an h => ⟨h, ?_⟩
    have ht : t ∈ ps.flatten := mem_flatten_get.2 ⟨j, _, h, by simp⟩
    exact k.get (s.half.lt t (by simp only [List.mem_append]; exact .inr ht)) (hd' t (by simp only [List.mem_append]; exact .inr ht))
  · refine (k.get (Nat.lt_of_lt_of_le hc s.mv.1.1) (fun q => ?_)).trans (s.mv.1.get hc hn)
    rcases h0 c q with rfl | r
    · exact hn (by simp)
    · omega

theorem hdp_at {ok : Nat → Prop} {h : H} {cs : List Value} {n : Nat} {t : Prt} (q : PrtC ok h ((cs.drop n).take 5) t) (hle : n + 5 ≤ cs.length) : ∃ v, (cs.drop n).take 5 = [.int .i64 t.id, .int .i64 t.stamp, .string t.place, .int .i64 t.kind, v] ∧ (cs.drop (n + 4)).take 1 = [v] ∧ SlR ok 3 SeenC h v t.nodes := by
  obtain ⟨v, e, s⟩ := q
  refine ⟨v, e, ?_, s⟩
  have := congrArg (List.drop 4) e
  rw [List.drop_take, List.drop_drop] at this
  simpa using this

set_option maxHeartbeats 1000000 in
theorem ppost_spec {F : Nat} {g0 g g2 : H} {d i N pb : Nat} {O0 o1 o3 o : List Nat} {okL : Nat → Prop} {l : List Prt} {x : Prt} {v m nds tg pt0 tgs t2 vt : Value} {cs es cs2 : List Value} {ps : List (List Nat)} {b2 : Nat} {an2 : List Nat}
    (s : TwI KP g0 d O0 l g i m nds N o1 o3 cs es ps)
    (hd : hget g d = some (.cells [tg, pt0, tgs, nds] 0 true [])) (hi : i ≤ 1048576) (hiN : i < N) (sl : SlR okL 5 (PrtC okL) g0 v l) (hok : ∀ c ∈ d :: O0, ¬ okL c) (hx : l[i]? = some x) (hs : x.nodes.length ≤ 1048576)
    (hpb : hget g pb = some (.cells [.int .i64 x.id, .int .i64 x.stamp, .string x.place, .int .i64 x.kind, vt] 0 true [])) (hvt : oneCell vt = true) (hpd : pb ≠ d) (hpn : pb ∉ o1 ++ o3 ++ ps.flatten) (hp0 : g0.size ≤ pb)
    (hp : ps[i]? = some o) (l2 : Lay 3 g2 t2 x.nodes.length b2 cs2 an2) (c2 : cs2.take (x.nodes.length * 3) = seenV x.nodes) (mv : Moves g g2 o (b2 :: an2)) (nd2 : (b2 :: an2).Nodup) (lt2 : ∀ c ∈ an2, c < g2.size)
    {kn kr : K} {ke : Nat → K} {Q : Value → H → Prop} {e0 : Env}
    (hk : ∀ g3 m' nds' o1' o3' cs' es' ps', TwI KP g0 d O0 l g3 (i + 1) m' nds' N o1' o3' cs' es' ps' → hget g3 d = some (.cells [tg, pt0, tgs, nds'] 0 true []) →
      Ans (kn [(0, .pointer (some ⟨d, 0, none⟩)), (1, v), (5, m'), (6, .int .i64 i)] g3 []) Q) :
    Ans (evC F (cf F) ppost kn ke kr ((0, .pointer (some ⟨d, 0, none⟩)) :: (1, v) :: (5, m) :: (6, .int .i64 i) :: (7, .pointer (some ⟨pb, 0, none⟩)) :: (8, t2) :: e0) g2 []) Q := by
  have hb2 := l2.lt
  have hpbs := lt_of_get hpb
  simp (disch := first | omega | (simp only [newRow_size, Array.size_setIfInBounds, Array.size_push]; done) | (simp only [newRow_size, Array.size_setIfInBounds, Array.size_push]; omega)) [ppost, r39_13, srcOf]
  have kR := rowKept g2 roomV 3 []
  have lR : Lay 3 (Ev.newRow g2 roomV 3 []) t2 x.nodes.length b2 cs2 an2 := l2.kept kR (by simp)
  refine Ans.next (lR.app2 (bytes := 40) (new := roomV) nd2 (fun c hc => by have := lt2 c hc; simp; omega) rfl rfl (by omega)) ?_
  rintro t3 g3 ⟨b3, cs3, an3, l3, c3, m3, nd3, lt3⟩
  have mt : Moves g g3 o (b3 :: an3) := mv.trans ((Moves.of kR (by simp)).trans m3)
  obtain ⟨T, anT, c, rfl, hT, hc, hNc, hg3d, hd3, s4, hd4, ht4, hp4, kK⟩ := s.give hiN hp mt.1 l3 nd3 mt.2 lt3
  rw [hd] at hd4 hg3d
  have hTs := lt_of_get hT
  obtain ⟨ct, rfl, hb3, hl3, hle3⟩ := l3
  simp (disch := first | omega | (simp only [newRow_size, Array.size_setIfInBounds, Array.size_push]; done) | (simp only [newRow_size, Array.size_setIfInBounds, Array.size_push]; omega)) [r39_14, hg3d, hT, hd3, eqT, eqF, neT, neF, ltT, ltF, leT, leF, nltT, nltF, nleT, nleF, nneT, nneF, List.getElem?_cons_zero, List.getElem?_cons_succ, wr]
  have hp4b := (kK.get hpbs hpn).trans hpb
  generalize hh4 : (kill g3 anT).setIfInBounds T (.cells (es.take i ++ .slice (some ⟨b3, 0, none⟩) (x.nodes.length + 1) ct :: es.drop (i + 1)) 1 true []) = h4 at s4 hd4 ht4 hp4b ⊢
  clear hh4 kK
  have sg := SlPrt.imp sl (ok' := okL) (fun _ _ q => q) (keep_of s4.mv.1.c hok)
  obtain ⟨bL, oL, cL, csL, esL, lvL, anL, rfl, hkL, hgL, hleL, hRL⟩ := sg.at' hx
  obtain ⟨vt', e5, e1, st⟩ := hdp_at hRL hleL
  have hln := st.len
  have hgLs := lt_of_get hgL
  have hilx := (List.getElem?_eq_some_iff.1 hx).1
  have hlc : x.nodes.length ≤ ct := by omega
  have hpbs4 := lt_of_get hp4b
  simp only [oneCell] at hvt
  simp (disch := first | omega | (simp only [newRow_size, Array.size_setIfInBounds, Array.size_push]; done) | (simp only [newRow_size, Array.size_setIfInBounds, Array.size_push]; omega)) [r39_15, hgL, e1, hln, eqT, eqF, neT, neF, ltT, ltF, leT, leF, nltT, nltF, nleT, nleF, nneT, nneF, List.getElem?_cons_zero, List.getElem?_cons_succ, srcOf, hlc, slcV, optInt, hp4b, hvt, r39_16, List.drop_append]
  have hpm : pb ∉ o1 ++ [T] ++ (ps.set i (b3 :: an3)).flatten := by
    refine fun q => ?_
    have hT3 : T ∈ o3 := by
      rcases s.half.lists with ⟨_, rfl, _, _⟩ | ⟨T', an3', rfl, c', e', _⟩
      · omega
      · injection e' with e' _ _
        injection e' with e'
        injection e' with e' _ _
        subst e'
        simp
    simp only [List.mem_append, not_or] at hpn q
    rcases q with (q | q) | q
    · exact hpn.1.1 q
    · simp at q
      subst q
      exact hpn.1.2 hT3
    · rcases mem_flatten_set (h := g) hp mt.2 q with r | r
      · exact hpn.2 r
      · omega
  have hb3n : b3 ≠ pb := fun e => hpm (by simp only [List.mem_append]; exact .inr (mem_flatten_get.2 ⟨i, _, hp4, by simp [e]⟩))
  have kR4 : Kept h4 (Ev.newRow (h4.setIfInBounds pb (.cells [.int .i64 x.id, .int .i64 x.stamp, .string x.place, .int .i64 x.kind, .slice (some ⟨b3, 0, none⟩) x.nodes.length ct] 0 true [])) [.int .i64 x.id, .int .i64 x.stamp, .string x.place, .int .i64 x.kind, .slice (some ⟨b3, 0, none⟩) x.nodes.length ct] 5 []) [pb] := by
    refine ⟨by simp, fun c hc hn => ?_⟩
    rw [(rowKept _ _ _ _).get (by simpa using hc) (by simp)]
    exact set_other (fun e => hn (by simp [e]))
  have hgt4 := ht4.trans hb3
  have hb3s := lt_of_get hgt4
  refine Ans.next ((s4.frame2 kR4 (by simpa using hpm) (by simpa using Or.inr hp0)).row hiN hx (new := [.int .i64 x.id, .int .i64 x.stamp, .string x.place, .int .i64 x.kind, .slice (some ⟨b3, 0, none⟩) x.nodes.length ct]) (t := b3) (c := ct) (bytes := 64) (an := an3) (zs := cs3) rfl rfl rfl (by omega) hp4 ?_ hl3 hle3 ?_) ?_
  · exact (kR4.get hb3s (by simpa using hb3n)).trans hgt4
  · show cs3.take ((x.nodes.length + 1) * 3) = seenV x.nodes ++ roomV
    rw [c3, c2]
  rintro m' g5 ⟨o1', cs', s5, hd5⟩
  simp (disch := first | omega | (simp only [newRow_size, Array.size_setIfInBounds, Array.size_push]; done) | (simp only [newRow_size, Array.size_setIfInBounds, Array.size_push]; omega)) [eqT, eqF, neT, neF, ltT, ltF, leT, leF, nltT, nltF, nleT, nleF, nneT, nneF, List.getElem?_cons_zero, List.getElem?_cons_succ]
  refine hk _ _ _ _ _ _ _ _ s5 ?_
  exact hd5.trans ((kR4.get s4.dlt (by simpa using fun e => hpd e.symm)).trans hd4)

end Go.Proofs.Ytkkagpchcefidaa

/- Desk.twins. -/
set_option linter.unusedSimpArgs false
set_option linter.unusedVariables false
namespace Go.Proofs.Ytkkagpchcefidaa
open Go.Ev

def lastP : List Value := [.int .i64 777, .int .i64 0, .string ⟨#[]⟩, .int .i64 0, .slice none 0 0]

def TwinsP (h : H) (d : Nat) (O : List Nat) (l : List Prt) (tg tgs : Value) (m : Value) (h' : H) : Prop :=
  ∃ nds N o1 o3 cs es ps, Laid KP h h' d O l m nds N o1 o3 cs es ps lastP ∧ hget h' d = some (.cells [tg, m, tgs, nds] 0 true [])

set_option maxHeartbeats 1000000 in
theorem twins_spec {F : Nat} (hF : 17592186044431 ≤ F) {h : H} {d : Nat} {O : List Nat} {okL : Nat → Prop} {l : List Prt} {v tg pt tgs nds : Value} (s : AtRest 3 h d pt nds O)
    (hd : hget h d = some (.cells [tg, pt, tgs, nds] 0 true [])) (sl : SlR okL 5 (PrtC okL) h v l) (hok : ∀ c ∈ d :: O, ¬ okL c) (hs1 : l.length ≤ 1048576) (hs2 : ∀ x ∈ l, x.nodes.length ≤ 1048576) :
    Ans (cf F 39 [.pointer (some ⟨d, 0, none⟩), v] h) (TwinsP h d O l tg tgs) := by
  generalize hQ : TwinsP h d O l tg tgs = Q
  replace sl := SlPrt.imp sl (ok' := fun c => okL c ∧ c < h.size) (fun c hc q => ⟨q, hc⟩) (fun _ _ _ e => e)
  replace hok : ∀ c ∈ d :: O, ¬ (okL c ∧ c < h.size) := fun c hc q => hok c hc q.1
  obtain ⟨F, rfl⟩ : ∃ G, F = G + 1 := ⟨F - 1, by omega⟩
  rw [cf_step (a := a39) rfl rfl (by simp [a39])]
  have hl := sl.len
  obtain ⟨m0, hcut, N, o1, o3, cs, es, ps, s0⟩ := AtRest.begin' KP s l
  have hds := s.dlt
  simp (disch := first | omega | (simp only [newRow_size, Array.size_setIfInBounds, Array.size_push]; done) | (simp only [newRow_size, Array.size_setIfInBounds, Array.size_push]; omega)) [a39, r39_0, r39_1, hd, hcut, r39_2]
  refine loop_rule (fun mm e g => ∃ (i : Nat) (m nds : Value) (N : Nat) (o1 o3 : List Nat) (cs es : List Value) (ps : List (List Nat)), mm = l.length - i ∧ i ≤ l.length ∧ e = [(0, .pointer (some ⟨d, 0, none⟩)), (1, v), (5, m), (6, .int .i64 i)] ∧ TwI KP h d O l g i m nds N o1 o3 cs es ps ∧ hget g d = some (.cells [tg, pt, tgs, nds] 0 true [])) ?_ _ l.length _ _ (by omega) ⟨0, m0, nds, N, o1, o3, cs, es, ps, by omega, by omega, rfl, s0, hd⟩
  clear s0
  rintro mm e g again ⟨i, m, nds, N, o1, o3, cs, es, ps, rfl, hil, rfl, si, hdi⟩ ih
  have hw : IntKind.i64.wrap ((i : Int) + 1) = ((i + 1 : Nat) : Int) := by rw [IntKind.wrap_i64]; omega
  by_cases hlt : i < l.length
  · obtain ⟨x, hx⟩ : ∃ x, l[i]? = some x := ⟨_, List.getElem?_eq_getElem hlt⟩
    rw [l39_cut]
    simp (disch := first | omega | (simp only [newRow_size, Array.size_setIfInBounds, Array.size_push]; done) | (simp only [newRow_size, Array.size_setIfInBounds, Array.size_push]; omega)) [r39_3, hl, eqT, eqF, neT, neF, ltT, ltF, leT, leF, nltT, nltF, nleT, nleF, nneT, nneF, List.getElem?_cons_zero, List.getElem?_cons_succ]
    refine ppre_spec si hdi (by omega) ?_
    intro g2 nds2 N2 o3' es' ps' e2 s2 hd2 hi2
    have sg2 := SlPrt.imp sl (ok' := fun c => okL c ∧ c < h.size) (fun _ _ q => q) (keep_of s2.mv.1.c hok)
    obtain ⟨bL, oL, cL, csL, esL, lvL, anL, rfl, hkL, hgL, hleL, hRL⟩ := sg2.at' hx
    obtain ⟨vt, e5, e1, st⟩ := hdp_at hRL hleL
    have hgLs := lt_of_get hgL
    have hto := st.one
    simp only [oneCell] at hto
    have hd2s := s2.dlt
    simp (disch := first | omega | (simp only [newRow_size, Array.size_setIfInBounds, Array.size_push]; done) | (simp only [newRow_size, Array.size_setIfInBounds, Array.size_push]; omega)) [r39_6, hgL, e5, hto, eqT, eqF, neT, neF, ltT, ltF, leT, leF, nltT, nltF, nleT, nleF, nneT, nneF, List.getElem?_cons_zero, List.getElem?_cons_succ]
    have hY1 : hget (Ev.newRow g2 [.int .i64 x.id, .int .i64 x.stamp, .string x.place, .int .i64 x.kind, vt] 0 []) g2.size = some (.cells [.int .i64 x.id, .int .i64 x.stamp, .string x.place, .int .i64 x.kind, vt] 0 true []) := by simp
    have hY2 := rowKept g2 [.int .i64 x.id, .int .i64 x.stamp, .string x.place, .int .i64 x.kind, vt] 0 []
    generalize Ev.newRow g2 [.int .i64 x.id, .int .i64 x.stamp, .string x.place, .int .i64 x.kind, vt] 0 [] = g3 at hY1 hY2 ⊢
    have s3 := s2.frame (hY2.weak (by simp))
    have hd3 := (hY2.get hd2s (by simp)).trans hd2
    have hpb2 : ∀ c ∈ o1 ++ o3' ++ ps'.flatten, c < g2.size := s2.half.lt
    have h02 := s2.mv.1.1
    generalize hpbE : g2.size = pb at hY1 hpb2 h02 hd2s ⊢
    obtain ⟨T, an3, c, e, n, c2, t, cs2, an, rfl, rfl, hT, hc, hNc, he, hp, rfl, l2, nd2, lt2, mem2⟩ := s3.entry hi2
    have hcat : (es'.drop i).take 1 = [.slice (some ⟨t, 0, none⟩) n c2] := by
      rw [List.take_one, List.head?_drop, he]; rfl
    have hd3s := s3.dlt
    have hTs := lt_of_get hT
    simp (disch := first | omega | (simp only [newRow_size, Array.size_setIfInBounds, Array.size_push]; done) | (simp only [newRow_size, Array.size_setIfInBounds, Array.size_push]; omega)) [r39_7, hd3, hT, hcat, eqT, eqF, neT, neF, ltT, ltF, leT, leF, nltT, nltF, nleT, nleF, nneT, nneF, List.getElem?_cons_zero, List.getElem?_cons_succ, slcV, optInt]
    have hm2 : ∀ c ∈ t :: an, ¬ (okL c ∧ c < h.size) := by
      intro c hc q
      rcases s3.mv.2 c (List.mem_cons_of_mem _ (mem2 c hc)) with r | r
      · exact hok c r q
      · omega
    have hpn : pb ∉ o1 ++ T :: an3 ++ ps'.flatten := fun q => by have := hpb2 _ q; omega
    have st3 := SlSeen.imp st (ok' := fun c => okL c ∧ c < h.size) (fun _ _ q => q) (keep_of hY2.c (by simp))
    refine pin_spec (F := F) (by omega) st3 (hs2 x (List.mem_of_getElem? hx)) l2 hm2 nd2 (fun c hc => lt2 c (by simp [hc])) hY1 (fun q => hpn (mem2 pb q)) ?_
    intro g4 t3 b3 cs3 an4 e3 l3 c3 m3 nd3 w3
    refine ppost_spec s3 hd3 (by omega) hi2 sl hok hx (hs2 x (List.mem_of_getElem? hx)) hY1 st.one (by omega) hpn h02 hp l3 c3 m3 nd3 w3 ?_
    intro g5 m' nds' o1' o3' cs' es' ps' s5 hd5
    simp (disch := first | omega | (simp only [newRow_size, Array.size_setIfInBounds, Array.size_push]; done) | (simp only [newRow_size, Array.size_setIfInBounds, Array.size_push]; omega)) [r39_17, hw]
    exact ih (l.length - (i + 1)) _ _ (by omega) ⟨i + 1, m', nds', N2, o1', o3', cs', es', ps', rfl, by omega, rfl, s5, hd5⟩
  · have : i = l.length := by omega
    subst this
    simp (disch := first | omega | (simp only [newRow_size, Array.size_setIfInBounds, Array.size_push]; done) | (simp only [newRow_size, Array.size_setIfInBounds, Array.size_push]; omega)) [l39_18, r39_3, hl, eqT, eqF, neT, neF, ltT, ltF, leT, leF, nltT, nltF, nleT, nleF, nneT, nneF, List.getElem?_cons_zero, List.getElem?_cons_succ, r39_19, srcOf]
    have kR : Kept g (Ev.newRow g lastP 5 []) [d] := (rowKept _ _ _ _).weak (by simp)
    have hgs := si.dlt
    refine Ans.next ((si.frame kR).last (new := lastP) (bytes := 64) rfl rfl (by omega)) ?_
    rintro m' g2 ⟨o1', cs', hf, hr, hlast, mv, hdn, hdl, hgd⟩
    rw [(rowKept _ _ _ _).get hgs (by simp), hdi] at hgd
    have hvc := hf.rows.vc
    have hto := hf.rows.one
    simp only [vcells] at hvc
    simp only [oneCell] at hto
    simp (disch := first | omega | (simp only [newRow_size, Array.size_setIfInBounds, Array.size_push]; done) | (simp only [newRow_size, Array.size_setIfInBounds, Array.size_push]; omega)) [r39_20, hgd, hvc, hto, r39_21]
    subst hQ
    have k2 : Kept g2 (g2.setIfInBounds d (.cells [tg, m', tgs, nds] 0 true [])) [d] := ⟨by simp, fun c hc hn => set_other (fun e => hn (by simp [e]))⟩
    exact Ans.of ⟨nds, N, o1', o3, cs', es, ps, Laid.frame ⟨hf, hr, hlast, mv, hdn, hdl⟩ k2, by simp [hdl]⟩

end Go.Proofs.Ytkkagpchcefidaa

/- What has been laid: read as a list; written over. -/
set_option linter.unusedSimpArgs false
set_option linter.unusedVariables false
namespace Go.Ev

theorem Half.rowB {ww : Nat} {h : H} {tg tgs : Value} {n N : Nat} {o1 o3 : List Nat} {cs es : List Value} {ps : List (List Nat)} (s : Half ww h tg tgs n N o1 o3 cs es ps) (hn : 0 < n) : ∃ B anB c, o1 = B :: anB ∧ tg = .slice (some ⟨B, 0, none⟩) n c ∧ hget h B = some (.cells cs 5 true anB) ∧ cs.length = c * 5 ∧ n ≤ c := by
  rcases s.rows with ⟨_, rfl, _, _⟩ | ⟨B, anB, e, c, e1, e2, e3, e4⟩
  · omega
  · exact ⟨B, anB, c, e, e1, e2, e3, e4⟩

section
variable {α : Type} {K : Kd α}

/-- Rows from i on, and their lists. -/
def RowW (K : Kd α) (g : H) (l : List α) (cs : List Value) (ps : List (List Nat)) (i : Nat) : Prop :=
  ∀ (j : Nat) (x : α), i ≤ j → l[j]? = some x → ∃ t an zs c, ps[j]? = some (t :: an) ∧ (cs.drop (j * 5)).take 5 = K.row x (.slice (some ⟨t, 0, none⟩) (K.cnt x) c) ∧ hget g t = some (.cells zs K.ww true an) ∧ zs.length = c * K.ww ∧ K.cnt x ≤ c

theorem Rowed.w {g : H} {l : List α} {cs : List Value} {ps : List (List Nat)} (s : Rowed K g l cs ps l.length) : RowW K g l cs ps 0 := by
  intro j x _ hx
  obtain ⟨t, an, zs, c, h1, h2, h3, h4, h5, _⟩ := s j x (List.getElem?_eq_some_iff.1 hx).1 hx
  exact ⟨t, an, zs, c, h1, h2, h3, h4, by omega⟩

theorem RowW.keep {g g' : H} {l : List α} {cs : List Value} {ps : List (List Nat)} {i : Nat} (s : RowW K g l cs ps i) (hps : ∀ (j : Nat) t an, ps[j]? = some (t :: an) → hget g' t = hget g t) : RowW K g' l cs ps i := by
  intro j x hj hx
  obtain ⟨t, an, zs, c, h1, h2, h3, h4⟩ := s j x hj hx
  exact ⟨t, an, zs, c, h1, h2, (hps j t an h1).trans h3, h4⟩

/-- In the middle of writing over. -/
structure SpI (K : Kd α) (g0 : H) (O0 : List Nat) (l : List α) (cs0 : List Value) (m tgs : Value) (N : Nat) (es : List Value) (g : H) (i : Nat) (o1 o3 : List Nat) (cs : List Value) (ps : List (List Nat)) : Prop where
  half : Half K.ww g m tgs (l.length + 1) N o1 o3 cs es ps
  rows : RowW K g l cs0 ps i
  tail : cs.drop (i * 5) = cs0.drop (i * 5)
  mv : Moves g0 g O0 (o1 ++ o3 ++ ps.flatten)

theorem SpI.at' {g0 g : H} {O0 o1 o3 : List Nat} {l : List α} {cs0 cs es : List Value} {m tgs : Value} {N i : Nat} {ps : List (List Nat)} (s : SpI K g0 O0 l cs0 m tgs N es g i o1 o3 cs ps) {x : α} (hx : l[i]? = some x) : ∃ t an zs c, ps[i]? = some (t :: an) ∧ (cs.drop (i * 5)).take 5 = K.row x (.slice (some ⟨t, 0, none⟩) (K.cnt x) c) ∧ hget g t = some (.cells zs K.ww true an) ∧ zs.length = c * K.ww ∧ K.cnt x ≤ c := by
  obtain ⟨t, an, zs, c, h1, h2, h3, h4⟩ := s.rows i x (Nat.le_refl _) hx
  rw [← s.tail] at h2
  exact ⟨t, an, zs, c, h1, h2, h3, h4⟩

/-- An element of row i's list written. -/
theorem SpI.poke {g0 g : H} {O0 o1 o3 : List Nat} {l : List α} {cs0 cs es : List Value} {m tgs : Value} {N i : Nat} {ps : List (List Nat)} (s : SpI K g0 O0 l cs0 m tgs N es g i o1 o3 cs ps) {t : Nat} {an : List Nat} {zs ys : List Value} (hp : ps[i]? = some (t :: an)) (hg : hget g t = some (.cells zs K.ww true an)) (hl : ys.length = zs.length) :
    SpI K g0 O0 l cs0 m tgs N es ((kill g an).setIfInBounds t (.cells ys K.ww true [])) i o1 o3 cs (ps.set i [t]) := by
  have ow := s.half.owns
  have hp2 : (o1 :: o3 :: ps)[i + 2]? = some (t :: an) := hp
  have hts := lt_of_get hg
  obtain ⟨kk, zk⟩ := kill_kept an g
  obtain ⟨e, n, t', cs', an', he, e1, c, rfl, e2, e3, e4⟩ := s.half.ents.get hp
  injection e1 with e1 e1'
  subst e1 e1'
  rw [hg] at e2
  injection e2 with e2
  injection e2 with e2
  subst e2
  generalize hg2 : (kill g an).setIfInBounds t (.cells ys K.ww true []) = g2
  have k : Kept g g2 (t :: an) := by
    subst hg2
    refine ⟨by simp [zk], fun c hc hn => ?_⟩
    simp only [List.mem_cons, not_or] at hn
    rw [set_other (fun e => hn.1 e.symm)]
    exact kk.get hc hn.2
  have ht2 : hget g2 t = some (.cells ys K.ww true []) := by
    subst hg2
    simp [zk, hts]
  obtain ⟨hf, mv⟩ := s.half.poke hp k he ⟨c, rfl, ht2, by omega, e4⟩ (by simp) (by simp) (by simp)
  refine ⟨hf, ?_, s.tail, s.mv.trans mv⟩
  intro j x hj hx
  obtain ⟨t', an', zs', c', h1, h2, h3, h4, h5⟩ := s.rows j x hj hx
  by_cases hji : j = i
  · subst hji
    rw [hp] at h1
    injection h1 with h1
    injection h1 with h1 h1'
    subst h1 h1'
    rw [hg] at h3
    injection h3 with h3
    injection h3 with h3
    subst h3
    exact ⟨t, [], ys, c', by rw [List.getElem?_set_self (List.getElem?_eq_some_iff.1 hp).1], h2, ht2, by omega, h5⟩
  · refine ⟨t', an', zs', c', by rw [List.getElem?_set_ne (fun e => hji e.symm)]; exact h1, h2, ?_, h4, h5⟩
    refine (k.get (lt_of_get h3) ?_).trans h3
    exact ow.disj (i := j + 2) (j := i + 2) h1 hp2 (by omega) t' (by simp)

/-- Row i written; it is not looked at again. -/
theorem SpI.next {g0 g : H} {O0 o1 o3 : List Nat} {l : List α} {cs0 cs es ys : List Value} {m tgs : Value} {N i : Nat} {ps : List (List Nat)} (s : SpI K g0 O0 l cs0 m tgs N es g i o1 o3 cs ps) {B : Nat} {anB : List Nat} (e1 : o1 = B :: anB) (hg : hget g B = some (.cells cs 5 true anB)) (hl : ys.length = cs.length) (ht : ys.drop ((i + 1) * 5) = cs.drop ((i + 1) * 5)) :
    SpI K g0 O0 l cs0 m tgs N es ((kill g anB).setIfInBounds B (.cells ys 5 true [])) (i + 1) [B] o3 ys ps := by
  subst e1
  have ow := s.half.owns
  have hBs := lt_of_get hg
  obtain ⟨kk, zk⟩ := kill_kept anB g
  obtain ⟨B', anB', c, e1, e2, e3, e4, e5⟩ := s.half.rowB (by omega)
  injection e1 with e1 e1'
  subst e1 e1'
  generalize hg2 : (kill g anB).setIfInBounds B (.cells ys 5 true []) = g2
  have k : Kept g g2 (B :: anB) := by
    subst hg2
    refine ⟨by simp [zk], fun c hc hn => ?_⟩
    simp only [List.mem_cons, not_or] at hn
    rw [set_other (fun e => hn.1 e.symm)]
    exact kk.get hc hn.2
  have hB2 : hget g2 B = some (.cells ys 5 true []) := by
    subst hg2
    simp [zk, hBs]
  have ow2 : Owns g2 ([B] :: o3 :: ps) := ow.set (i := 0) (o' := [B]) rfl k.1 (by simp) (by simp) (by
    intro c hc
    simp at hc
    subst hc
    exact lt_of_get hB2)
  obtain ⟨b1, b2⟩ := ow2.half
  have mv : Moves g g2 ((B :: anB) ++ o3 ++ ps.flatten) ([B] ++ o3 ++ ps.flatten) := ((show Moves g g2 (B :: anB) [B] from ⟨k, by simp⟩).right o3).right _
  refine ⟨⟨.inr ⟨B, [], rfl, c, e2, hB2, by omega, e5⟩, s.half.lists.kept k ?_, s.half.ents.kept k ?_, b1, b2⟩, ?_, ?_, s.mv.trans mv⟩
  · intro q hq hq2
    exact ow.disj (i := 0) (j := 1) rfl rfl (by omega) q hq2 hq
  · intro q hq hq2
    obtain ⟨j, p, h1, h2⟩ := mem_flatten_get.1 hq
    exact ow.disj (i := 0) (j := j + 2) rfl h1 (by omega) q hq2 h2
  · intro j x hj hx
    obtain ⟨t', an', zs', c', h1, h2, h3, h4, h5⟩ := s.rows j x (by omega) hx
    refine ⟨t', an', zs', c', h1, h2, (k.get (lt_of_get h3) ?_).trans h3, h4, h5⟩
    exact ow.disj (i := j + 2) (j := 0) h1 rfl (by omega) t' (by simp)
  · rw [ht]
    have := congrArg (List.drop 5) s.tail
    rw [List.drop_drop, List.drop_drop] at this
    rwa [Nat.succ_mul]

theorem Laid.sp {h0 h : H} {d : Nat} {O0 : List Nat} {l : List α} {m tgs : Value} {N : Nat} {o1 o3 : List Nat} {cs es : List Value} {ps : List (List Nat)} {last : List Value} (s : Laid K h0 h d O0 l m tgs N o1 o3 cs es ps last) : SpI K h (o1 ++ o3 ++ ps.flatten) l cs m tgs N es h 0 o1 o3 cs ps :=
  ⟨s.half, s.rowed.w, rfl, Moves.refl _ _⟩
end

end Go.Ev
namespace Go.Proofs.Ytkkagpchcefidaa
open Go.Ev

theorem Laid.slT {h0 h : H} {d : Nat} {O0 : List Nat} {l : List Tgd} {m tgs : Value} {N : Nat} {o1 o3 : List Nat} {cs es : List Value} {ps : List (List Nat)} {last : List Value} (s : Laid KT h0 h d O0 l m tgs N o1 o3 cs es ps last) {B c : Nat} (hm : m = .slice (some ⟨B, 0, none⟩) (l.length + 1) c) : SlR (fun c => c ∈ o1 ++ o3 ++ ps.flatten) 5 (TgdC fun c => c ∈ o1 ++ o3 ++ ps.flatten) h (.slice (some ⟨B, 0, none⟩) l.length c) l := by
  obtain ⟨B', anB, c', rfl, e2, e3, e4, e5⟩ := s.half.rowB (by omega)
  rw [hm] at e2
  injection e2 with e2 _ e2'
  injection e2 with e2
  injection e2 with e2 _ _
  subst e2 e2'
  refine .inr ⟨B, 0, c, cs, rfl, by omega, by simp, cel_of e3, ?_⟩
  intro i x hx
  have hil := (List.getElem?_eq_some_iff.1 hx).1
  obtain ⟨t, an, zs, c2, h1, h2, h3, h4, h5, h6⟩ := s.rowed i x hil hx
  rw [Nat.zero_add]
  refine ⟨by omega, _, h2, .inr ⟨t, 0, c2, zs, rfl, Nat.le_of_lt h5, ?_, cel_of h3, ?_⟩⟩
  · simp only [List.mem_append]
    exact .inr (mem_flatten_get.2 ⟨i, _, h1, by simp⟩)
  · intro k n hn
    have hkl := (List.getElem?_eq_some_iff.1 hn).1
    simp only [KT, Nat.mul_one] at h4 h5 h6
    have hz : zs[k]? = some (.int .i64 n) := by
      have e : zs[k]? = (zs.take (x.tags.length + 1))[k]? := by rw [List.getElem?_take_of_lt (by omega)]
      rw [e, h6, List.getElem?_append_left (by simp [intsV]; omega)]
      simp [intsV, hn]
    refine ⟨by omega, ?_⟩
    show (zs.drop (0 + k * 1)).take 1 = [.int .i64 n]
    rw [Nat.zero_add, Nat.mul_one, List.take_one, List.head?_drop, hz]; rfl

theorem seenV_at : ∀ {l : List Seen} {k : Nat} {n : Seen}, l[k]? = some n → ∀ (r : List Value), ((seenV l ++ r).drop (k * 3)).take 3 = n.cells
  | [], k, n, h, r => by simp at h
  | a :: l, 0, n, h, r => by
    simp at h
    subst h
    simp [seenV, Seen.cells]
  | a :: l, k + 1, n, h, r => by
    have := seenV_at (l := l) (k := k) (n := n) (by simpa using h) r
    have e : seenV (a :: l) ++ r = a.cells ++ (seenV l ++ r) := by simp [seenV]
    rw [e, Nat.succ_mul, Nat.add_comm, ← List.drop_drop, List.drop_left' (show a.cells.length = 3 from rfl)]
    exact this

theorem seenV_len (l : List Seen) : (seenV l).length = l.length * 3 := by
  induction l with
  | nil => rfl
  | cons a l ih => simp only [seenV, List.map_cons, List.flatten_cons, List.length_append, List.length_cons] at ih ⊢; rw [ih, Nat.succ_mul]; simp [Seen.cells]; omega

theorem Laid.slP {h0 h : H} {d : Nat} {O0 : List Nat} {l : List Prt} {m tgs : Value} {N : Nat} {o1 o3 : List Nat} {cs es : List Value} {ps : List (List Nat)} {last : List Value} (s : Laid KP h0 h d O0 l m tgs N o1 o3 cs es ps last) {B c : Nat} (hm : m = .slice (some ⟨B, 0, none⟩) (l.length + 1) c) : SlR (fun c => c ∈ o1 ++ o3 ++ ps.flatten) 5 (PrtC fun c => c ∈ o1 ++ o3 ++ ps.flatten) h (.slice (some ⟨B, 0, none⟩) l.length c) l := by
  obtain ⟨B', anB, c', rfl, e2, e3, e4, e5⟩ := s.half.rowB (by omega)
  rw [hm] at e2
  injection e2 with e2 _ e2'
  injection e2 with e2
  injection e2 with e2 _ _
  subst e2 e2'
  refine .inr ⟨B, 0, c, cs, rfl, by omega, by simp, cel_of e3, ?_⟩
  intro i x hx
  have hil := (List.getElem?_eq_some_iff.1 hx).1
  obtain ⟨t, an, zs, c2, h1, h2, h3, h4, h5, h6⟩ := s.rowed i x hil hx
  rw [Nat.zero_add]
  refine ⟨by omega, _, h2, .inr ⟨t, 0, c2, zs, rfl, Nat.le_of_lt h5, ?_, cel_of h3, ?_⟩⟩
  · simp only [List.mem_append]
    exact .inr (mem_flatten_get.2 ⟨i, _, h1, by simp⟩)
  · intro k n hn
    have hkl := (List.getElem?_eq_some_iff.1 hn).1
    simp only [KP] at h4 h5 h6
    rw [Nat.zero_add]
    refine ⟨by omega, ?_⟩
    show (zs.drop (k * 3)).take 3 = n.cells
    have e : (zs.drop (k * 3)).take 3 = ((zs.take ((x.nodes.length + 1) * 3)).drop (k * 3)).take 3 := by
      rw [List.drop_take, List.take_take]
      congr 1
      omega
    rw [e, h6]
    exact seenV_at hn _

end Go.Proofs.Ytkkagpchcefidaa
