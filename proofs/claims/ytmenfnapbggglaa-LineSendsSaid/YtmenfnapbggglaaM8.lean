/- Several texts in one: Ld2, Ld3, Ld4, Ld5, Ld6, Ld7, Ld8, Ld9, Ld10. -/
import Derived.Test.YtmenfnapbggglaaM7

/- The program's line, there or nil: what its functions answer, in the document's words. -/
set_option linter.unusedSimpArgs false
set_option linter.unusedVariables false
namespace Go.Proofs.Ytmenfnapbggglaa
open Go.Ev

def LS (h : H) (lv : Value) (fl : Flight) (last : Int) (nn : Bool) (W : List Nat) : Prop :=
  (lv = .pointer none ∧ nn = true ∧ fl = [] ∧ W = []) ∨ ∃ b m, lv = .pointer (some ⟨b, 0, none⟩) ∧ nn = false ∧ LineAt h b m fl last ∧ W = b :: m.toList

section
variable {h h' : H} {lv : Value} {fl : Flight} {last : Int} {nn : Bool} {W L : List Nat}
theorem LS.lt (s : LS h lv fl last nn W) : ∀ c ∈ W, c < h.size := by
  rcases s with ⟨_, _, _, rfl⟩ | ⟨b, m, _, _, s, rfl⟩
  · simp
  · intro c hc
    rcases List.mem_cons.1 hc with rfl | hc
    · exact lt_of_get s.line
    · rw [Option.mem_toList] at hc
      exact lt_of_get (s.yes c hc).2
theorem LS.kept (s : LS h lv fl last nn W) (k : Kept h h' L) (hL : ∀ c ∈ W, c ∉ L) : LS h' lv fl last nn W := by
  rcases s with s | ⟨b, m, e, e2, s, rfl⟩
  · exact .inl s
  · refine .inr ⟨b, m, e, e2, ⟨(k.get (lt_of_get s.line) (hL b (by simp))).trans s.line, s.no, fun x hx => ⟨(s.yes x hx).1, (k.get (lt_of_get (s.yes x hx).2) (hL x (by simp [hx]))).trans (s.yes x hx).2⟩⟩, rfl⟩
theorem LS.none_fl (s : LS h lv fl last nn W) : nn = true → fl = [] := by
  rcases s with ⟨_, _, e, _⟩ | ⟨b, m, _, e2, s, rfl⟩
  · exact fun _ => e
  · intro e; rw [e2] at e; cases e
/-- What is in the line's memory is a line or a map, no row of a list. -/
theorem LS.no_row (s : LS h lv fl last nn W) {b : Nat} {cs : List Value} {es : Nat} {lv' : Bool} {an : List Nat} (hb : b ∈ W) (he : es ≠ 0) : hget h b ≠ some (.cells cs es lv' an) := by
  rcases s with ⟨_, _, _, rfl⟩ | ⟨b', m, _, _, s, rfl⟩
  · simp at hb
  · intro e
    rcases List.mem_cons.1 hb with rfl | hb
    · rw [s.line] at e
      injection e with e
      injection e with _ e _ _
      exact he e.symm
    · rw [Option.mem_toList] at hb
      rw [(s.yes b hb).2] at e
      cases e
end

theorem kept_row {h g : H} (k : Kept h g []) (cs : List Value) (es : Nat) (an : List Nat) : Kept h (Ev.newRow g cs es an) [] := k.trans (rowKept _ _ _ _)
theorem kept_set {h g : H} (k : Kept h g []) {b : Nat} (hb : h.size ≤ b) (x : Blk) : Kept h (g.setIfInBounds b x) [] :=
  ⟨by have := k.1; simp; omega, fun c hc _ => by rw [set_other (by omega)]; exact k.get hc (by simp)⟩

theorem look_nil {F : Nat} (hF : 1 ≤ F) (n : Int) (h : H) : Ans (cf F 19 [.pointer none, .int .i64 n] h) fun v h' => v = .tuple ⟨[Msg.zero.val, .int .i64 160]⟩ ∧ Kept h h' [] := by
  obtain ⟨F, rfl⟩ : ∃ G, F = G + 1 := ⟨F - 1, by omega⟩
  rw [cf_step (a := a19) rfl rfl (by simp [a19])]
  simp (disch := first | omega | (simp only [newRow_size, Array.size_setIfInBounds, Array.size_push]; done) | (simp only [newRow_size, Array.size_setIfInBounds, Array.size_push]; omega)) [a19, r19_0, r19_1, nilEq, r19_2, eqT, eqF, neT, neF, ltT, ltF, leT, leF, nltT, nltF, nleT, nleF, nneT, nneF, List.getElem?_cons_zero, List.getElem?_cons_succ]
  exact Ans.of ⟨rfl, rowKept _ _ _ _⟩

theorem LS.look {F : Nat} (hF : 1 ≤ F) {h : H} {lv : Value} {fl : Flight} {last : Int} {nn : Bool} {W : List Nat} (s : LS h lv fl last nn W) (n : Int) :
    Ans (cf F 19 [lv, .int .i64 n] h) fun v h' => v = .tuple ⟨[(lookM n fl).1.val, .int .i64 (lookM n fl).2]⟩ ∧ Kept h h' [] := by
  rcases s with ⟨rfl, _, rfl, rfl⟩ | ⟨b, m, rfl, _, s, rfl⟩
  · exact look_nil hF n h
  · obtain ⟨F, rfl⟩ : ∃ G, F = G + 1 := ⟨F - 1, by omega⟩
    refine (look_spec F s n).mono ?_
    rintro v h' ⟨rfl, k⟩
    refine ⟨?_, k.kept (by simp)⟩
    unfold lookM
    cases lk n fl 0 <;> rfl

theorem take_nil {F : Nat} (hF : 2 ≤ F) (n : Int) (h : H) : Ans (cf F 35 [.pointer none, .int .i64 n] h) fun v h' => v = .tuple ⟨[Msg.zero.val, .int .i64 160]⟩ ∧ Kept h h' [] := by
  obtain ⟨F, rfl⟩ : ∃ G, F = G + 1 := ⟨F - 1, by omega⟩
  rw [cf_step (a := a35) rfl rfl (by simp [a35])]
  simp (disch := first | omega | (simp only [newRow_size, Array.size_setIfInBounds, Array.size_push]; done) | (simp only [newRow_size, Array.size_setIfInBounds, Array.size_push]; omega)) [a35, r35_0, r35_1]
  have kR := rowKept h [.int .i64 0, .int .i64 0, .string ⟨#[]⟩] 0 []
  have hR : hget (Ev.newRow h [.int .i64 0, .int .i64 0, .string ⟨#[]⟩] 0 []) h.size = some (.cells [.int .i64 0, .int .i64 0, .string ⟨#[]⟩] 0 true []) := by simp
  generalize Ev.newRow h [.int .i64 0, .int .i64 0, .string ⟨#[]⟩] 0 [] = g at kR hR ⊢
  refine Ans.next (look_nil (F := F) (by omega) n g) ?_
  rintro v h1 ⟨rfl, k1⟩
  have hRs := lt_of_get hR
  have y1 := k1.1
  have h1' := (k1.get hRs (by simp)).trans hR
  have h1s := lt_of_get h1'
  simp (disch := first | omega | (simp only [newRow_size, Array.size_setIfInBounds, Array.size_push]; done) | (simp only [newRow_size, Array.size_setIfInBounds, Array.size_push]; omega)) [Msg.zero, Msg.val, Msg.cells, r35_2, eqT, eqF, neT, neF, ltT, ltF, leT, leF, nltT, nltF, nleT, nleF, nneT, nneF, List.getElem?_cons_zero, List.getElem?_cons_succ, r35_4, h1']
  exact Ans.of ⟨rfl, kept_set (kept_row (kR.trans k1) _ _ _) (by have := kR.1; omega) _⟩

theorem rise_erase {n : Int} : ∀ {fl : Flight} {i j : Nat} {p : Parcel}, (fl.Pairwise fun p q => p.1 < q.1) → lk n fl j = some (i, p) → j ≤ i ∧ fl.eraseIdx (i - j) = notN n fl
  | [], i, j, p, _, e => by simp [lk] at e
  | a :: r, i, j, p, hp, e => by
    rw [List.pairwise_cons] at hp
    unfold lk at e
    split at e
    · rename_i h
      cases e
      refine ⟨Nat.le_refl _, ?_⟩
      rw [Nat.sub_self, List.eraseIdx_cons_zero]
      unfold notN
      rw [List.filter_cons_of_neg (by simp [h]), List.filter_eq_self.2]
      intro q hq
      have := hp.1 q hq
      simp; omega
    · rename_i h
      obtain ⟨h1, h2⟩ := rise_erase hp.2 e
      refine ⟨by omega, ?_⟩
      rw [show i - j = (i - (j + 1)) + 1 by omega, List.eraseIdx_cons_succ, h2]
      unfold notN
      rw [List.filter_cons_of_pos (by simp; exact fun e => h e.symm)]

theorem LS.take {F : Nat} (hF : 3 ≤ F) {h : H} {lv : Value} {fl : Flight} {last : Int} {nn : Bool} {W : List Nat} (s : LS h lv fl last nn W) (w : Fl fl last) (n : Int) :
    Ans (cf F 35 [lv, .int .i64 n] h) fun v h' => v = .tuple ⟨[(lookM n fl).1.val, .int .i64 (lookM n fl).2]⟩ ∧ LS h' lv (takeR n fl) last nn W ∧ Kept h h' W := by
  rcases s with ⟨rfl, e1, rfl, rfl⟩ | ⟨b, m, rfl, e2, s, rfl⟩
  · refine (take_nil (F := F) (by omega) n h).mono ?_
    rintro v h' ⟨rfl, k⟩
    exact ⟨rfl, .inl ⟨rfl, e1, rfl, rfl⟩, k⟩
  · obtain ⟨F, rfl⟩ : ∃ G, F = G + 2 := ⟨F - 2, by omega⟩
    refine (take_spec F s n).mono ?_
    intro v h' q
    unfold lookM takeR
    cases hlk : lk n fl 0 with
    | none =>
      rw [hlk] at q
      obtain ⟨rfl, k⟩ := q
      exact ⟨rfl, .inr ⟨b, m, rfl, e2, s.keeps0 k, rfl⟩, k.kept (by simp)⟩
    | some ip =>
      obtain ⟨i, p⟩ := ip
      rw [hlk] at q
      obtain ⟨rfl, k, l'⟩ := q
      have he := (rise_erase w.rise hlk).2
      rw [Nat.sub_zero] at he
      rw [he] at l'
      exact ⟨rfl, .inr ⟨b, m, rfl, e2, l', rfl⟩, k.kept (by intro c hc; simp [hc])⟩

theorem double_nil {F : Nat} (hF : 2 ≤ F) (n : Int) (h : H) : Ans (cf F 17 [.pointer none, .int .i64 n] h) fun v h' => v = .tuple ⟨[.int .i64 0, .int .i64 160]⟩ ∧ Kept h h' [] := by
  obtain ⟨F, rfl⟩ : ∃ G, F = G + 1 := ⟨F - 1, by omega⟩
  rw [cf_step (a := a17) rfl rfl (by simp [a17])]
  simp (disch := first | omega | (simp only [newRow_size, Array.size_setIfInBounds, Array.size_push]; done) | (simp only [newRow_size, Array.size_setIfInBounds, Array.size_push]; omega)) [a17, r17_0, r17_1]
  refine Ans.next (look_nil (F := F) (by omega) n h) ?_
  rintro v h1 ⟨rfl, k1⟩
  have y1 := k1.1
  simp (disch := first | omega | (simp only [newRow_size, Array.size_setIfInBounds, Array.size_push]; done) | (simp only [newRow_size, Array.size_setIfInBounds, Array.size_push]; omega)) [Msg.zero, Msg.val, Msg.cells, r17_2, r17_3, eqT, eqF, neT, neF, ltT, ltF, leT, leF, nltT, nltF, nleT, nleF, nneT, nneF, List.getElem?_cons_zero, List.getElem?_cons_succ]
  exact Ans.of ⟨rfl, kept_row k1 _ _ _⟩

theorem LS.double {F : Nat} (hF : 3 ≤ F) {h : H} {lv : Value} {fl : Flight} {last : Int} {nn : Bool} {W : List Nat} (s : LS h lv fl last nn W) (w : Fl fl last) (hmax : last ≤ 1000000000) (n : Int) :
    Ans (cf F 17 [lv, .int .i64 n] h) fun v h' => v = .tuple ⟨[.int .i64 (doubleR nn n fl last).2.2.1, .int .i64 (doubleR nn n fl last).2.2.2]⟩ ∧ LS h' lv (doubleR nn n fl last).1 (doubleR nn n fl last).2.1 nn W ∧ Kept h h' W := by
  rcases s with ⟨rfl, e1, rfl, rfl⟩ | ⟨b, m, rfl, e2, s, rfl⟩
  · refine (double_nil (F := F) (by omega) n h).mono ?_
    rintro v h' ⟨rfl, k⟩
    exact ⟨rfl, .inl ⟨rfl, e1, rfl, rfl⟩, k⟩
  · obtain ⟨F, rfl⟩ : ∃ G, F = G + 2 := ⟨F - 2, by omega⟩
    refine (double_spec F s w hmax n).mono ?_
    intro v h' q
    have hpos := w.pos
    unfold doubleR
    cases hlk : lk n fl 0 with
    | none =>
      rw [hlk] at q
      obtain ⟨rfl, k⟩ := q
      exact ⟨rfl, .inr ⟨b, m, rfl, e2, s.keeps0 k, rfl⟩, k.kept (by simp)⟩
    | some ip =>
      obtain ⟨i, p⟩ := ip
      obtain ⟨x, rfl⟩ := s.some_of hlk
      rw [hlk] at q
      simp only at q ⊢
      by_cases hfull : 256 ≤ fl.length
      · have hp : putR nn fl last p = (fl, last, -1) := by unfold putR; rw [if_pos (Or.inr hfull)]
        rw [if_pos hfull] at q
        obtain ⟨rfl, k⟩ := q
        rw [hp, if_pos (show (-1 : Int) < 0 by decide)]
        exact ⟨rfl, .inr ⟨b, _, rfl, e2, s.keeps0 k, rfl⟩, k.kept (by simp)⟩
      · have hp : putR nn fl last p = (fl ++ [(last + 1, p)], last + 1, last + 1) := by unfold putR; rw [if_neg (by simp [e2]; omega)]
        rw [if_neg hfull] at q
        obtain ⟨rfl, k, m', l', hm'⟩ := q
        have hneg : ¬ (last + 1 < 0) := by omega
        rw [hp, if_neg hneg]
        rcases hm' with hm' | ⟨hm', _⟩
        · cases hm'
          refine ⟨rfl, .inr ⟨b, _, rfl, e2, l', rfl⟩, k.kept ?_⟩
          rintro c (rfl | hc)
          · simp
          · cases hc; simp
        · cases hm'

theorem spoil_nil {F : Nat} (hF : 2 ≤ F) (n at' turn : Int) (h : H) : Ans (cf F 18 [.pointer none, .int .i64 n, .int .i64 at', .int .i64 turn] h) fun v h' => v = .int .i64 160 ∧ Kept h h' [] := by
  obtain ⟨F, rfl⟩ : ∃ G, F = G + 1 := ⟨F - 1, by omega⟩
  rw [cf_step (a := a18) rfl rfl (by simp [a18])]
  simp (disch := first | omega | (simp only [newRow_size, Array.size_setIfInBounds, Array.size_push]; done) | (simp only [newRow_size, Array.size_setIfInBounds, Array.size_push]; omega)) [a18, r18_0, r18_1]
  refine Ans.next (look_nil (F := F) (by omega) n h) ?_
  rintro v h1 ⟨rfl, k1⟩
  have y1 := k1.1
  simp (disch := first | omega | (simp only [newRow_size, Array.size_setIfInBounds, Array.size_push]; done) | (simp only [newRow_size, Array.size_setIfInBounds, Array.size_push]; omega)) [Msg.zero, Msg.val, Msg.cells, r18_2, r18_3, eqT, eqF, neT, neF, ltT, ltF, leT, leF, nltT, nltF, nleT, nleF, nneT, nneF, List.getElem?_cons_zero, List.getElem?_cons_succ]
  exact Ans.of ⟨rfl, kept_row k1 _ _ _⟩

theorem LS.spoil {F : Nat} (hF : 3 ≤ F) {h : H} {lv : Value} {fl : Flight} {last : Int} {nn : Bool} {W : List Nat} (s : LS h lv fl last nn W) (n at' turn : Int) :
    Ans (cf F 18 [lv, .int .i64 n, .int .i64 at', .int .i64 turn] h) fun v h' => v = .int .i64 (spoilR n at' turn fl).2 ∧ LS h' lv (spoilR n at' turn fl).1 last nn W ∧ Kept h h' W := by
  rcases s with ⟨rfl, e1, rfl, rfl⟩ | ⟨b, m, rfl, e2, s, rfl⟩
  · refine (spoil_nil (F := F) (by omega) n at' turn h).mono ?_
    rintro v h' ⟨rfl, k⟩
    exact ⟨rfl, .inl ⟨rfl, e1, rfl, rfl⟩, k⟩
  · obtain ⟨F, rfl⟩ : ∃ G, F = G + 2 := ⟨F - 2, by omega⟩
    refine (spoil_spec F s n at' turn).mono ?_
    intro v h' q
    unfold spoilR
    cases hlk : lk n fl 0 with
    | none =>
      rw [hlk] at q
      obtain ⟨rfl, k⟩ := q
      exact ⟨rfl, .inr ⟨b, m, rfl, e2, s.keeps0 k, rfl⟩, k.kept (by simp)⟩
    | some ip =>
      obtain ⟨i, p⟩ := ip
      rw [hlk] at q
      simp only at q ⊢
      by_cases c1 : at' < 0 ∨ turn < 1 ∨ 255 < turn ∨ slen p.1.b = 0
      · rw [if_pos c1] at q ⊢
        obtain ⟨rfl, k⟩ := q
        exact ⟨rfl, .inr ⟨b, _, rfl, e2, s.keeps0 k, rfl⟩, k.kept (by simp)⟩
      · rw [if_neg c1] at q ⊢
        by_cases c2 : p.2 = true
        · rw [if_pos c2] at q ⊢
          obtain ⟨rfl, k⟩ := q
          exact ⟨rfl, .inr ⟨b, _, rfl, e2, s.keeps0 k, rfl⟩, k.kept (by simp)⟩
        · rw [if_neg c2] at q ⊢
          obtain ⟨rfl, k, l'⟩ := q
          exact ⟨rfl, .inr ⟨b, m, rfl, e2, l', rfl⟩, k.kept (by intro c hc; simp [hc])⟩

end Go.Proofs.Ytmenfnapbggglaa

/- Send and Numbers of the program's line, there or nil. -/
set_option linter.unusedSimpArgs false
set_option linter.unusedVariables false
namespace Go.Proofs.Ytmenfnapbggglaa
open Go.Ev

theorem put_nil {F : Nat} (hF : 1 ≤ F) (p : Parcel) (h : H) : Ans (cf F 34 [.pointer none, pval p] h) fun v h' => v = .int .i64 (-1) ∧ Kept h h' [] := by
  obtain ⟨F, rfl⟩ : ∃ G, F = G + 1 := ⟨F - 1, by omega⟩
  rw [cf_step (a := a34) rfl rfl (by simp [a34])]
  simp (disch := first | omega | (simp only [newRow_size, Array.size_setIfInBounds, Array.size_push]; done) | (simp only [newRow_size, Array.size_setIfInBounds, Array.size_push]; omega)) [a34, r34_0, r34_1, nilEq, pval, pcells, Msg.cells, r34_2, eqT, eqF, neT, neF, ltT, ltF, leT, leF, nltT, nltF, nleT, nleF, nneT, nneF, List.getElem?_cons_zero, List.getElem?_cons_succ]
  refine Ans.of ⟨rfl, ?_⟩
  first | exact Kept.refl _ _ | exact rowKept _ _ _ _

theorem sendR_nil : ∀ (l : List Msg) (fl : Flight) (last : Int), sendR true fl last l = (fl, last, List.replicate l.length (-1))
  | [], fl, last => rfl
  | m :: r, fl, last => by
    have hp : putR true fl last (m, false) = (fl, last, -1) := by unfold putR; rw [if_pos (.inl rfl)]
    simp only [sendR, hp, sendR_nil r, List.length_cons, List.replicate_succ]

theorem sendR_eq : ∀ (l : List Msg) (fl : Flight) (last : Int), sendR false fl last l = sendM fl last l
  | [], fl, last => rfl
  | m :: r, fl, last => by
    unfold sendM
    simp only [sendR]
    by_cases h : 256 ≤ fl.length
    · have hp : putR false fl last (m, false) = (fl, last, -1) := by unfold putR; rw [if_pos (.inr h)]
      rw [hp, if_pos h, sendR_eq r]
    · have hp : putR false fl last (m, false) = (fl ++ [(last + 1, (m, false))], last + 1, last + 1) := by unfold putR; rw [if_neg (by simp; omega)]
      rw [hp, if_neg h, sendR_eq r]

theorem MsgsAt.lenV {h : H} {v : Value} {l : List Msg} (m : MsgsAt h v l) : Ev.lenV v = some (.int .i64 l.length) := by
  rcases m with ⟨rfl, rfl⟩ | ⟨b, o, c, cs, es, lv, an, rfl, _⟩ <;> simp [Ev.lenV]

theorem send_nil {F : Nat} (hF : 1000 ≤ F) {h : H} {v : Value} {l : List Msg} (mv : MsgsAt h v l) (hl : l.length ≤ 900) :
    Ans (cf F 16 [.pointer none, v] h) fun u h' => SlR (fun c => h.size ≤ c) 1 IntC h' u (List.replicate l.length (-1)) ∧ Kept h h' [] := by
  generalize hQ : (fun (u : Value) (h' : H) => SlR (fun c => h.size ≤ c) 1 IntC h' u (List.replicate l.length (-1)) ∧ Kept h h' []) = Q
  obtain ⟨F, rfl⟩ : ∃ G, F = G + 1 := ⟨F - 1, by omega⟩
  have hln := mv.lenV
  rw [cf_step (a := a16) rfl rfl (by simp [a16])]
  simp (disch := first | omega | (simp only [newRow_size, Array.size_setIfInBounds, Array.size_push]; done) | (simp only [newRow_size, Array.size_setIfInBounds, Array.size_push]; omega)) [a16, r16_0, r16_1, r16_2, hln]
  refine loop_rule (fun m e g' => ∃ (i : Nat) (u : Value), m = l.length - i ∧ i ≤ l.length ∧ e = [(0, .pointer none), (5, u), (8, v), (9, .int .i64 l.length), (10, .int .i64 i)] ∧ (∀ b, b < h.size → hget g' b = hget h b) ∧ h.size ≤ g'.size ∧ Bld (fun c => h.size ≤ c) 1 IntC g' u (List.replicate i (-1))) ?_ _ l.length _ _ (by omega) ⟨0, .slice none 0 0, by omega, by omega, rfl, fun _ _ => rfl, by omega, Bld.nil _ _ _ _⟩
  rintro m e g again ⟨i, u, rfl, hi, rfl, kg, zg, bu⟩ ih
  have hw : IntKind.i64.wrap ((i : Int) + 1) = ((i + 1 : Nat) : Int) := by rw [wrap_id (by omega) (by omega)]; rfl
  by_cases hlt : i < l.length
  · have mg : MsgsAt g v l := mv.keeps ⟨zg, fun b hb _ => kg b hb⟩
    obtain ⟨b, o, c, cs, es, lv, an, rfl, hg, hle, hr⟩ := mg.read hlt
    have hgs := lt_of_get hg
    have hlt' : (i : Int) < (l.length : Int) := by omega
    simp (disch := first | omega | (simp only [newRow_size, Array.size_setIfInBounds, Array.size_push]; done) | (simp only [newRow_size, Array.size_setIfInBounds, Array.size_push]; omega)) [l16_7, r16_3, hlt', eqT, eqF, neT, neF, ltT, ltF, leT, leF, nltT, nltF, nleT, nleF, nneT, nneF, List.getElem?_cons_zero, List.getElem?_cons_succ, r16_4, hg, hr, r16_5]
    have kA := rowKept g [.int .i64 (l[i]).fr, .int .i64 (l[i]).to, .string (l[i]).b] 0 []
    refine Ans.next (put_nil (F := F) (by omega) (l[i], false) _) ?_
    rintro w h2 ⟨rfl, k2⟩
    have y2 := k2.1
    simp (disch := first | omega | (simp only [newRow_size, Array.size_setIfInBounds, Array.size_push]; done) | (simp only [newRow_size, Array.size_setIfInBounds, Array.size_push]; omega)) [srcOf]
    have kN := rowKept h2 [.int .i64 (-1)] 1 []
    have kB := (kA.trans k2).trans kN
    have bN := bu.kept kB (by simp) (fun cs t _ q => q)
    have yB := kB.1
    refine Ans.next (bN.push (x := -1) (bytes := 8) int_any rfl (by simp; omega) (by simp at yB ⊢; omega) rfl) ?_
    rintro u' h5 ⟨b5, z5, g5, _⟩
    simp only [newRow_size] at z5 yB
    simp (disch := first | omega | (simp only [newRow_size, Array.size_setIfInBounds, Array.size_push]; done) | (simp only [newRow_size, Array.size_setIfInBounds, Array.size_push]; omega)) [r16_6, hw]
    refine ih (l.length - (i + 1)) _ _ (by omega) ⟨i + 1, u', rfl, by omega, rfl, fun b hb => (g5 b (by omega)).trans ((kB.get (by omega) (by simp)).trans (kg b hb)), by omega, ?_⟩
    rw [List.replicate_succ']
    exact b5
  · have hii : i = l.length := by omega
    subst hii
    simp (disch := first | omega | (simp only [newRow_size, Array.size_setIfInBounds, Array.size_push]; done) | (simp only [newRow_size, Array.size_setIfInBounds, Array.size_push]; omega)) [l16_7, r16_3, eqT, eqF, neT, neF, ltT, ltF, leT, leF, nltT, nltF, nleT, nleF, nneT, nneF, List.getElem?_cons_zero, List.getElem?_cons_succ, r16_8]
    subst hQ
    exact Ans.of ⟨bu.sl, ⟨zg, fun c hc _ => kg c hc⟩⟩

theorem OwnRow.slI {h : H} {v : Value} {ns : List Int} {B n : Nat} (o : OwnRow h v 1 n (ints ns) B) (hn : ns.length = n) : SlR (fun c => B ≤ c) 1 IntC h v ns := by
  subst hn
  rcases o with ⟨h1, h2, h3⟩ | ⟨b, h1, h2, ⟨an, h3, h4⟩, h5⟩
  · exact .inl ⟨.inl h3, List.eq_nil_of_length_eq_zero h1⟩
  · refine .inr ⟨b, 0, ns.length, ints ns, h2, Nat.le_refl _, h1, cel_of h3, fun i x hx => ?_⟩
    have hil := (List.getElem?_eq_some_iff.1 hx).1
    refine ⟨by simp [ints]; omega, ?_⟩
    show ((ints ns).drop (0 + i * 1)).take 1 = [.int .i64 x]
    rw [Nat.zero_add, Nat.mul_one, List.take_one, List.head?_drop]
    simp [ints, hx]

theorem LS.send {F : Nat} (hF : 1000 ≤ F) {h : H} {lv : Value} {fl : Flight} {last : Int} {nn : Bool} {W : List Nat} (s : LS h lv fl last nn W) (w : Fl fl last) {v : Value} {l : List Msg} (hl : l.length ≤ 900) (mv : MsgsAt h v l) (hlast : last + l.length ≤ 1000000000)
    (hfar : ∀ x o n c, v = .slice (some ⟨x, o, none⟩) n c → x ∉ W) :
    Ans (cf F 16 [lv, v] h) fun u h' => SlR (fun c => h.size ≤ c) 1 IntC h' u (sendR nn fl last l).2.2 ∧ ∃ W', LS h' lv (sendR nn fl last l).1 (sendR nn fl last l).2.1 nn W' ∧ Moves h h' W W' := by
  rcases s with ⟨rfl, rfl, rfl, rfl⟩ | ⟨b, m, rfl, rfl, s, rfl⟩
  · rw [sendR_nil]
    refine (send_nil hF mv hl).mono ?_
    rintro u h' ⟨s', k⟩
    exact ⟨s', [], .inl ⟨rfl, rfl, rfl, rfl⟩, k, by simp⟩
  · obtain ⟨F, rfl⟩ : ∃ G, F = G + 2 := ⟨F - 2, by omega⟩
    rw [sendR_eq]
    have hns := (sendM_fl l w).2.2
    have hsz := lt_of_get s.line
    refine (send_spec F (by omega) (by omega) mv s w hlast ?_).mono ?_
    · intro x o n c e q
      refine hfar x o n c e ?_
      rcases q with rfl | q
      · simp
      · simp [q]
    · rintro u h' ⟨o, k, m', l', lat⟩
      refine ⟨OwnRow.slI o hns, b :: m'.toList, .inr ⟨b, m', rfl, rfl, l', rfl⟩, k.kept (by rintro c (rfl | q); simp; simp [q]), ?_⟩
      intro c hc
      rcases List.mem_cons.1 hc with rfl | hc
      · exact .inl (by simp)
      · rw [Option.mem_toList] at hc
        rcases lat with rfl | ⟨_, x, e, hx⟩
        · exact .inl (by simp [hc])
        · rw [e] at hc; cases hc; exact .inr hx

theorem intKeys_ents : ∀ fl : Flight, intKeys (ents fl) = some (fl.map (·.1))
  | [] => rfl
  | p :: r => by
    have := intKeys_ents r
    unfold ents at this ⊢
    simp only [List.map_cons, intKeys, this]
    rfl

theorem LS.numbers {F : Nat} (hF : 1 ≤ F) {h : H} {lv : Value} {fl : Flight} {last : Int} {nn : Bool} {W : List Nat} (s : LS h lv fl last nn W) (w : Fl fl last) (hl : fl.length ≤ 256) (hlast : last ≤ 1000000000) :
    Ans (cf F 26 [lv] h) fun u h' => SlR (fun c => h.size ≤ c) 1 IntC h' u (fl.map (·.1)) ∧ Kept h h' [] := by
  obtain ⟨F, rfl⟩ : ∃ G, F = G + 1 := ⟨F - 1, by omega⟩
  rw [cf_X (x := keysX) rfl]
  rcases s with ⟨rfl, _, rfl, rfl⟩ | ⟨b, m, rfl, _, s, rfl⟩
  · exact Ans.of ⟨.inl ⟨.inl rfl, rfl⟩, Kept.refl _ _⟩
  · have hb : h[b]? = some (.cells [.map m, .int .i64 last] 0 true []) := s.line
    cases m with
    | none =>
      have := s.no rfl
      subst this
      have hr : rd h b 0 1 = some [.map none] := by simp only [rd, hb]; rfl
      refine ⟨_, _, by simp only [keysX, hr], .inl ⟨.inl rfl, rfl⟩, Kept.refl _ _⟩
    | some x =>
      have hx : h[x]? = some (.map (ents fl) true) := (s.yes x rfl).2
      have hr : rd h b 0 1 = some [.map (some x)] := by simp only [rd, hb]; rfl
      have hpw : (fl.map (·.1)).Pairwise (· < ·) := by rw [List.pairwise_map]; exact w.rise
      have hnd : (fl.map (·.1)).Nodup := hpw.imp fun h => Int.ne_of_lt h
      have hms : ((fl.map (·.1)).mergeSort fun x y => decide (x ≤ y)) = fl.map (·.1) := List.mergeSort_of_pairwise (hpw.imp fun h => by simpa using Int.le_of_lt h)
      have hbd : ∀ n ∈ fl.map (·.1), 0 ≤ n ∧ n ≤ 1000000000 := by
        intro n hn
        obtain ⟨p, hp, rfl⟩ := List.mem_map.1 hn
        have := w.bnd p hp
        omega
      have hk := intKeys_ents fl
      by_cases he : fl = []
      · subst he
        refine ⟨_, _, by simp only [keysX, hr, hx, hk, if_pos (And.intro hnd (And.intro (show ([] : List Int).length ≤ 1000000 by simp) hbd))]; rfl, .inl ⟨.inl rfl, rfl⟩, Kept.refl _ _⟩
      · have hne : fl.map (·.1) ≠ [] := by simpa using he
        have hlen : (fl.map (·.1)).length ≤ 1000000 := by simp; omega
        refine ⟨_, _, by simp only [keysX, hr, hx, hk, if_pos (And.intro hnd (And.intro hlen hbd)), if_neg hne, hms]; rfl, ?_, rowKept _ _ _ _⟩
        refine OwnRow.slI (n := (fl.map (·.1)).length) (.inr ⟨h.size, Nat.le_refl _, rfl, ⟨[], by simp [ints], by simp⟩, by simp [ints]⟩) rfl

end Go.Proofs.Ytmenfnapbggglaa

/- What stays true of a line behind every step. -/
set_option linter.unusedSimpArgs false
set_option linter.unusedVariables false
namespace Go.Proofs.Ytmenfnapbggglaa
open Go.Ev

structure Gd (fl : Flight) (last : Int) : Prop where
  w : Fl fl last
  len : fl.length ≤ 256
  sl : ∀ q ∈ fl, slen q.2.1.b ≤ 600

theorem Gd.nil : Gd [] 0 := ⟨⟨.nil, by simp, by simp⟩, by simp, by simp⟩

theorem Gd.put {fl : Flight} {last : Int} (g : Gd fl last) (nn : Bool) {p : Parcel} (hp : slen p.1.b ≤ 600) : Gd (putR nn fl last p).1 (putR nn fl last p).2.1 := by
  refine ⟨?_, putR_len nn fl last p g.len, ?_⟩
  · unfold putR
    split
    · exact g.w
    · exact g.w.put p
  · unfold putR
    split
    · exact g.sl
    · intro q hq
      rcases List.mem_append.1 hq with hq | hq
      · exact g.sl q hq
      · simp at hq; subst hq; exact hp

theorem Gd.send (nn : Bool) : ∀ (l : List Msg) {fl : Flight} {last : Int}, Gd fl last → (∀ m ∈ l, slen m.b ≤ 600) → Gd (sendR nn fl last l).1 (sendR nn fl last l).2.1
  | [], fl, last, g, _ => g
  | m :: r, fl, last, g, h => by
    simp only [sendR]
    exact Gd.send nn r (g.put nn (p := (m, false)) (h m (by simp))) (fun x hx => h x (by simp [hx]))

theorem Gd.take {fl : Flight} {last : Int} (g : Gd fl last) (n : Int) : Gd (takeR n fl) last := by
  unfold takeR
  split
  · unfold notN
    exact ⟨⟨g.w.rise.filter _, fun p hp => g.w.bnd p ((List.mem_filter.1 hp).1), g.w.pos⟩, Nat.le_trans (List.length_filter_le _ _) g.len, fun q hq => g.sl q ((List.mem_filter.1 hq).1)⟩
  · exact g

theorem Gd.double {fl : Flight} {last : Int} (g : Gd fl last) (nn : Bool) (n : Int) : Gd (doubleR nn n fl last).1 (doubleR nn n fl last).2.1 ∧ last ≤ (doubleR nn n fl last).2.1 ∧ (doubleR nn n fl last).2.1 ≤ last + 1 := by
  unfold doubleR
  cases hlk : lk n fl 0 with
  | none => exact ⟨g, by simp, by simp; omega⟩
  | some ip =>
    obtain ⟨i, p⟩ := ip
    obtain ⟨_, hp⟩ := lk_get hlk
    have hs := g.sl _ (List.mem_of_getElem? hp)
    have hl := putR_last nn fl last p
    simp only
    split
    · exact ⟨g, by simp, by simp; omega⟩
    · exact ⟨g.put nn hs, hl.1, hl.2⟩

theorem turnB_len (t : ByteArray) (i : Nat) (turn : Int) : slen (turnB t i turn) = slen t := by
  show (turnB t i turn).data.toList.length = t.data.toList.length
  simp [turnB]

theorem set_rise {n : Int} {p p' : Parcel} : ∀ {fl : Flight} {i : Nat}, (fl.Pairwise fun a b => a.1 < b.1) → fl[i]? = some (n, p) → (fl.set i (n, p')).Pairwise fun a b => a.1 < b.1 := by
  intro fl i hp hi
  have e : (fl.set i (n, p')).map (·.1) = fl.map (·.1) := by
    rw [List.map_set]
    apply List.ext_getElem?
    intro j
    by_cases hj : i = j
    · subst hj
      rw [List.getElem?_set_self (by simpa using (List.getElem?_eq_some_iff.1 hi).1), List.getElem?_map, hi]; rfl
    · rw [List.getElem?_set_ne hj]
  have h1 : (fl.map (·.1)).Pairwise (· < ·) := by rw [List.pairwise_map]; exact hp
  rw [← e, List.pairwise_map] at h1
  exact h1

theorem Gd.spoil {fl : Flight} {last : Int} (g : Gd fl last) (n at' turn : Int) : Gd (spoilR n at' turn fl).1 last := by
  unfold spoilR
  cases hlk : lk n fl 0 with
  | none => exact g
  | some ip =>
    obtain ⟨i, p⟩ := ip
    obtain ⟨_, hp⟩ := lk_get hlk
    rw [Nat.sub_zero] at hp
    have hm := List.mem_of_getElem? hp
    have hs := g.sl _ hm
    have hb := g.w.bnd _ hm
    simp only
    split
    · exact g
    split
    · exact g
    · refine ⟨⟨set_rise g.w.rise hp, ?_, g.w.pos⟩, by simpa using g.len, ?_⟩
      · intro q hq
        rcases List.mem_or_eq_of_mem_set hq with hq | rfl
        · exact g.w.bnd q hq
        · exact hb
      · intro q hq
        rcases List.mem_or_eq_of_mem_set hq with hq | rfl
        · exact g.sl q hq
        · show slen (turnB _ _ _) ≤ 600
          rw [turnB_len]; exact hs

theorem cutM_slen (m : Msg) : slen (cutM m).b ≤ 600 := by
  unfold cutM
  split
  · show (m.b.extract 0 600).size ≤ 600
    rw [ByteArray.size_extract]
    omega
  · omega
theorem cut_slen (l : List Msg) : ∀ m ∈ cut l, slen m.b ≤ 600 := by
  intro m hm
  unfold cut at hm
  obtain ⟨x, _, rfl⟩ := List.mem_map.1 hm
  exact cutM_slen x
theorem cut_le (l : List Msg) : (cut l).length ≤ 300 := by rw [cut_length]; omega

/-- A step of a script. -/
structure Stp where
  kind : Int
  on : Int
  msgs : List Msg
  n : Int
  at' : Int
  turn : Int

/-- What a step makes of a line. -/
def stepL (nn : Bool) (fl : Flight) (last : Int) (x : Stp) : Flight × Int :=
  if x.kind = 1 then ((sendR nn fl last (cut x.msgs)).1, (sendR nn fl last (cut x.msgs)).2.1)
  else if x.kind = 2 then (takeR x.n fl, last)
  else if x.kind = 3 then ((doubleR nn x.n fl last).1, (doubleR nn x.n fl last).2.1)
  else if x.kind = 4 then ((spoilR x.n x.at' x.turn fl).1, last)
  else (fl, last)

theorem Gd.step {fl : Flight} {last : Int} (g : Gd fl last) (nn : Bool) (x : Stp) : Gd (stepL nn fl last x).1 (stepL nn fl last x).2 ∧ last ≤ (stepL nn fl last x).2 ∧ (stepL nn fl last x).2 ≤ last + 300 := by
  unfold stepL
  split
  · have h1 := sendR_last nn (cut x.msgs) fl last
    have h2 := cut_le x.msgs
    exact ⟨g.send nn _ (cut_slen _), h1.1, by simp only; omega⟩
  split
  · exact ⟨g.take _, by simp, by simp; omega⟩
  split
  · obtain ⟨h1, h2, h3⟩ := g.double nn x.n
    exact ⟨h1, h2, by simp only; omega⟩
  split
  · exact ⟨g.spoil _ _ _, by simp, by simp; omega⟩
  · exact ⟨g, by simp, by simp; omega⟩

theorem step_nil (fl : Flight) (last : Int) (x : Stp) (h : fl = []) : (stepL true fl last x).1 = [] := by
  subst h
  unfold stepL
  split
  · rw [sendR_nil]
  split
  · rfl
  split
  · rfl
  split
  · rfl
  · rfl

end Go.Proofs.Ytmenfnapbggglaa

/- plays: its parts; the loop over what was handed in. -/
set_option linter.unusedSimpArgs false
set_option linter.unusedVariables false
namespace Go.Proofs.Ytmenfnapbggglaa
open Go.Ev

def lpC : ACode := (.seq (.region r25_11 [8, 10, 11, 12, 13, 14, 15, 16, 17]) (.block 1 (.loop [8, 10, 11, 12, 13, 14, 15, 16, 17] l25_16)))
def sendC : ACode := (.seq (.region r25_3 [0, 3, 5, 8, 10]) (.seq (.region r25_4 [0, 3, 8, 10, 11, 12]) (.seq (.region r25_5 [0, 3, 8, 10, 11, 12, 13]) (.seq (.region r25_6 [0, 3, 8, 10, 11, 12, 13, 14]) (.seq (.region r25_7 [0, 3, 8, 10, 11, 12, 13, 14]) (.seq (.region r25_8 [0, 8, 10, 11, 12, 13, 14]) (.seq (.region r25_9 [8, 10, 11, 12, 13, 14, 15]) (.seq (.region r25_10 [8, 10, 11, 12, 13, 14, 15, 16]) (.seq lpC (.seq (.regionD d25_17 [(0, [7])] [8, 9]) .ret))))))))))
def takeC : ACode := (.seq (.region r25_19 [0, 6, 8, 18, 19, 20]) (.seq (.region r25_20 [8, 18, 19, 20, 21, 22]) (.seq (.regionD d25_21 [(0, [10]), (6, [12]), (7, [12])] [8, 9]) .ret)))
def dblC : ACode := (.seq (.region r25_23 [0, 6, 8, 23, 24, 25]) (.seq (.region r25_24 [8, 23, 24, 25, 26, 27]) (.seq (.regionD d25_25 [(0, [10])] [8, 9]) .ret)))
def splC : ACode := (.seq (.region r25_27 [0, 6, 8, 28, 29]) (.seq (.region r25_28 [8, 28, 29, 30]) (.seq (.regionD d25_29 [(0, [5])] [8, 9]) .ret)))
def lookC : ACode := (.seq (.region r25_31 [0, 5, 6, 8, 31, 32]) (.seq (.region r25_32 [5, 8, 31, 32, 33, 34]) (.seq (.regionD d25_33 [(0, [10]), (6, [12]), (7, [12])] [8, 9]) .ret)))
def numC : ACode := (.seq (.region r25_35 [5, 8, 35]) (.seq (.regionD d25_36 [(0, [4, 5])] [8, 9]) .ret))
theorem a25_cut : a25.body = (.seq (.region r25_0 [0, 3, 5, 6, 8]) (.seq (.seq (.region r25_1 [0, 3, 5, 6, 8, 37]) (.block 0 (.seq (.region r25_2 [0, 3, 5, 6, 8, 37, 38]) (.cond (.tmp 38) sendC (.seq (.region r25_18 [0, 5, 6, 8, 37, 115]) (.cond (.tmp 115) takeC (.seq (.region r25_22 [0, 5, 6, 8, 37, 142]) (.cond (.tmp 142) dblC (.seq (.region r25_26 [0, 5, 6, 8, 37, 169]) (.cond (.tmp 169) splC (.seq (.region r25_30 [0, 5, 6, 8, 37, 195]) (.cond (.tmp 195) lookC (.seq (.region r25_34 [0, 5, 8, 221]) (.cond (.tmp 221) numC .skip)))))))))))))) (.seq (.region r25_37 [8, 9]) .ret))) := rfl

def spoilt : List Value := [.int .i64 99, .int .i64 0, .string str115_112_111_105_108_116]

theorem eqM (m : Msg) : cellsEq [.int, .int, .str] [.int .i64 m.fr, .int .i64 m.to, .string m.b] [.int .i64 m.fr, .int .i64 m.to, .string m.b] = some true := by
  have := ba_self m.b
  simp [cellsEq, keyEq, this]

set_option maxHeartbeats 1000000 in
theorem lpC_spec {F : Nat} (hF : 1000 ≤ F) {ok : Nat → Prop} {g : H} {vm room v8 v11 v12 v15 : Value} {ms : List Msg} {N : Nat} {own : List Nat} {cs : List Value}
    (sm : SlR ok 3 MsgC g vm ms) (hms : ms.length ≤ 300) (lo : LayO 3 g room N own cs) (hN : ms.length < N) (hnd : own.Nodup) (hlt : ∀ c ∈ own, c < g.size) (hok : ∀ c ∈ own, ¬ ok c)
    (hc : ∀ (i : Nat) (m : Msg), ms[i]? = some m → (cs.drop (i * 3)).take 3 = m.cells)
    {kn kr : K} {ke : Nat → K} {Q : Value → H → Prop}
    (hk : ∀ g2 own2 cs2 (e : Env), LayO 3 g2 room N own2 cs2 → own2.Nodup → (∀ c ∈ own2, c < g2.size) → Moves g g2 own own2 →
      Ans (kn ((8, v8) :: (10, vm) :: (11, v11) :: (12, v12) :: (13, .int .i64 ms.length) :: (14, room) :: (15, v15) :: (16, .bool true) :: e) g2 []) Q) :
    Ans (evC F (cf F) lpC kn ke kr [(8, v8), (10, vm), (11, v11), (12, v12), (13, .int .i64 ms.length), (14, room), (15, v15), (16, .bool true)] g []) Q := by
  simp (disch := first | omega | (simp only [newRow_size, Array.size_setIfInBounds, Array.size_push]; done) | (simp only [newRow_size, Array.size_setIfInBounds, Array.size_push]; omega)) [lpC, r25_11]
  refine loop_rule (fun mm e g' => ∃ (k : Nat) (own' : List Nat) (cs' : List Value), mm = ms.length - k ∧ k ≤ ms.length ∧ e = [(8, v8), (10, vm), (11, v11), (12, v12), (13, .int .i64 ms.length), (14, room), (15, v15), (16, .bool true), (17, .int .i64 k)] ∧ LayO 3 g' room N own' cs' ∧ own'.Nodup ∧ (∀ c ∈ own', c < g'.size) ∧ Moves g g' own own' ∧ cs'.drop (k * 3) = cs.drop (k * 3)) ?_ _ ms.length _ _ (by omega) ⟨0, own, cs, by omega, by omega, rfl, lo, hnd, hlt, Moves.refl _ _, rfl⟩
  rintro mm e g' again ⟨k, own', cs', rfl, hkl, rfl, lo', hnd', hlt', mv, hdr⟩ ih
  have hw : IntKind.i64.wrap ((k : Int) + 1) = ((k + 1 : Nat) : Int) := by rw [wrap_id (by omega) (by omega)]; rfl
  by_cases hlk : k < ms.length
  · obtain ⟨m, hm⟩ : ∃ m, ms[k]? = some m := ⟨_, List.getElem?_eq_getElem hlk⟩
    have hcm := hc k m hm
    rw [← hdr] at hcm
    have hcm' : (cs'.drop (k * 3)).take 3 = [.int .i64 m.fr, .int .i64 m.to, .string m.b] := hcm
    have smg : SlR ok 3 MsgC g' vm ms := SlM.imp sm (fun _ _ q => q) (keep_of mv.1.c hok)
    obtain ⟨bm, om, cm, csm, es, lv, an, rfl, hkm, hgm, hlem, hpm⟩ := smg.at' hm
    have hpm' : (csm.drop (om + k * 3)).take 3 = [.int .i64 m.fr, .int .i64 m.to, .string m.b] := hpm
    obtain ⟨b, anb, c, rfl, rfl, hgb, hleb, lo2, k2⟩ := lo'.set (i := k) (new := spoilt) hnd' (by omega) rfl rfl
    have hgms := lt_of_get hgm
    have hgbs := lt_of_get hgb
    have hkN : k < N := by omega
    have hkc : (k : Int) < (ms.length : Int) := by omega
    have heq := ba_self m.b
    have hkN2 : (k : Int) < (N : Int) := by omega
    have hleb' : k * 3 + 3 ≤ cs'.length := hleb
    simp (disch := first | omega | (simp only [newRow_size, Array.size_setIfInBounds, Array.size_push]; done) | (simp only [newRow_size, Array.size_setIfInBounds, Array.size_push]; omega)) [l25_16, r25_12, hkc, eqT, eqF, neT, neF, ltT, ltF, leT, leF, nltT, nltF, nleT, nleF, nneT, nneF, List.getElem?_cons_zero, List.getElem?_cons_succ, d25_13, dk_go, chks_nil, chks_cons, chkA_nil, chkA_cons, chk1_no, chk1_yes, chkV_some, hAt_eq, hOf_some, hOf_none, hkN, hkN2, hlk, hgb, hcm', hleb', hgm, hpm', heq, r25_14, r25_15, hw]
    have hnew : cs'.take (k * 3) ++ spoilt ++ cs'.drop (k * 3 + 3) = cs'.take (k * 3) ++ .int .i64 99 :: .int .i64 0 :: .string str115_112_111_105_108_116 :: cs'.drop (k * 3 + 3) := by simp [spoilt]
    have hdn : (cs'.take (k * 3) ++ spoilt ++ cs'.drop (k * 3 + 3)).drop ((k + 1) * 3) = cs.drop ((k + 1) * 3) := by
      rw [List.drop_left' (by simp [spoilt]; omega)]
      have := congrArg (List.drop 3) hdr
      rw [List.drop_drop, List.drop_drop] at this
      rw [Nat.succ_mul]; exact this
    rw [hnew] at lo2 k2 hdn
    refine ih (ms.length - (k + 1)) _ _ (by omega) ⟨k + 1, [b], _, rfl, by omega, rfl, lo2, by simp, ?_, mv.trans ⟨k2, ?_⟩, hdn⟩
    · intro x hx
      simp at hx
      subst hx
      have := k2.1
      omega
    · intro x hx
      simp at hx
      subst hx
      exact .inl (by simp)
  · have hkk : k = ms.length := by omega
    subst hkk
    simp (disch := first | omega | (simp only [newRow_size, Array.size_setIfInBounds, Array.size_push]; done) | (simp only [newRow_size, Array.size_setIfInBounds, Array.size_push]; omega)) [l25_16, r25_12, eqT, eqF, neT, neF, ltT, ltF, leT, leF, nltT, nltF, nleT, nleF, nneT, nneF, List.getElem?_cons_zero, List.getElem?_cons_succ]
    exact hk _ _ _ _ lo' hnd' hlt' mv

end Go.Proofs.Ytmenfnapbggglaa

/- The state of a script: the program's line, the document's, the desk; plays: Send. -/
set_option linter.unusedSimpArgs false
set_option linter.unusedVariables false
namespace Go.Ev
/-- The desk. -/
def DeskS (h : H) (d : Nat) (D : List Nat) : Prop := ∃ v n own cs, hget h d = some (.cells [v] 0 true []) ∧ LayO 3 h v n own cs ∧ own.Nodup ∧ d ∉ own ∧ (∀ c ∈ own, c < h.size) ∧ n ≤ 1000 ∧ D = d :: own

theorem DeskS.kept {h h' : H} {d : Nat} {D L : List Nat} (s : DeskS h d D) (k : Kept h h' L) (hL : ∀ c ∈ D, c ∉ L) : DeskS h' d D := by
  obtain ⟨v, n, own, cs, e1, e2, e3, e4, e5, e6, rfl⟩ := s
  exact ⟨v, n, own, cs, (k.get (lt_of_get e1) (hL d (by simp))).trans e1, e2.kept k (fun c hc => hL c (by simp [hc])), e3, e4, fun c hc => Nat.lt_of_lt_of_le (e5 c hc) k.1, e6, rfl⟩
theorem DeskS.lt {h : H} {d : Nat} {D : List Nat} (s : DeskS h d D) : ∀ c ∈ D, c < h.size := by
  obtain ⟨v, n, own, cs, e1, e2, e3, e4, e5, e6, rfl⟩ := s
  intro c hc
  rcases List.mem_cons.1 hc with rfl | hc
  · exact lt_of_get e1
  · exact e5 c hc

theorem mcells_read {α : Type} {w : Nat} {R : H → List Value → α → Prop} {ok : Nat → Prop} {h : H} {v : Value} {xs : List α} (f : α → List Value) (hR : ∀ cs x, R h cs x → cs = f x) (hf : ∀ x, (f x).length = w) (s : Bld ok w R h v xs) : srcOf h w v = some (xs.length, (xs.map f).flatten) := by
  rcases s with ⟨rfl, rfl⟩ | ⟨b, cs, an, rfl, hk, hb, hl, hi⟩
  · simp [srcOf]
  · have hb' : h[b]? = some (.cells cs w true an) := hb
    have hcs : cs = (xs.map f).flatten := by
      clear hb hb'
      have h1 : ∀ (i : Nat) x, xs[i]? = some x → (cs.drop (i * w)).take w = f x := fun i x hx => hR _ _ (hi i x hx)
      clear hi
      induction xs generalizing cs with
      | nil => simp at hl; simp [hl]
      | cons x xs ih =>
        have h0 := h1 0 x rfl
        rw [Nat.zero_mul, List.drop_zero] at h0
        have := ih (cs := cs.drop w) (by rw [List.length_drop, hl, List.length_cons, Nat.succ_mul]; omega) (fun i y hy => by
          have := h1 (i + 1) y (by simpa using hy)
          rw [Nat.succ_mul, Nat.add_comm] at this
          rw [List.drop_drop]
          exact this)
        rw [List.map_cons, List.flatten_cons, ← this, ← h0, List.take_append_drop]
    simp only [srcOf]
    split
    · rename_i h0
      have : xs = [] := List.eq_nil_of_length_eq_zero h0
      subst this
      simp
    · simp only [rd, hb', Nat.zero_add, hl, Nat.le_refl, if_true, List.drop_zero, Option.map_some]
      rw [List.take_of_length_le (by omega), ← hcs]
end Go.Ev
namespace Go.Proofs.Ytmenfnapbggglaa
open Go.Ev

structure PlS (P : Nat → Prop) (h : H) (lv : Value) (fl : Flight) (last : Int) (nn : Bool) (W : List Nat) (cs : List Value) (d : Nat) (D : List Nat) : Prop where
  ls : LS h lv fl last nn W
  rf : RefL P h cs fl last nn
  dk : DeskS h d D
  pd : ∀ c ∈ D, ¬ P c
  wd : ∀ c ∈ D, c ∉ W
  pw : ∀ c ∈ W, ¬ P c
  plt : ∀ c, P c → c < h.size

theorem PlS.kept {P : Nat → Prop} {h h' : H} {lv : Value} {fl : Flight} {last : Int} {nn : Bool} {W : List Nat} {cs : List Value} {d : Nat} {D L : List Nat} (s : PlS P h lv fl last nn W cs d D) (k : Kept h h' L) (hL : ∀ c ∈ L, c ∉ W ∧ c ∉ D ∧ ¬ P c) : PlS P h' lv fl last nn W cs d D :=
  ⟨s.ls.kept k (fun c hc q => (hL c q).1 hc), s.rf.imp (fun _ _ q => q) (keep_of k.c (fun c hc => (hL c hc).2.2)), s.dk.kept k (fun c hc hc' => (hL c hc').2.1 hc), s.pd, s.wd, s.pw, fun c hc => Nat.lt_of_lt_of_le (s.plt c hc) k.1⟩

/-- What a step leaves. -/
def PlDone (P : Nat → Prop) (g : H) (lv : Value) (fl' : Flight) (last' : Int) (nn : Bool) (W : List Nat) (d : Nat) (D : List Nat) (rb : Nat) (cs' : List Value) (g' : H) : Prop :=
  ∃ W' D' P', hget g' rb = some (.cells cs' 0 true []) ∧ PlS P' g' lv fl' last' nn W' cs' d D' ∧ Kept g g' (rb :: (W ++ D)) ∧ (∀ c ∈ W', c ∈ W ∨ g.size ≤ c) ∧ (∀ c ∈ D', c ∈ D ∨ g.size ≤ c) ∧ (∀ c, P' c → P c ∨ g.size ≤ c)

theorem PlDone.of {P P' : Nat → Prop} {g g5 : H} {lv : Value} {fl' : Flight} {last' : Int} {nn : Bool} {W W5 D D5 cs' : List _} {d rb : Nat} (pl : PlS P' g5 lv fl' last' nn W5 cs' d D5) (k5 : Kept g g5 (W ++ D)) (hW : ∀ c ∈ W5, c ∈ W ∨ g.size ≤ c) (hD : ∀ c ∈ D5, c ∈ D ∨ g.size ≤ c) (hP : ∀ c, P' c → P c ∨ g.size ≤ c) (hrbs : rb < g.size) (nrb : ¬ P rb ∧ rb ∉ W ∧ rb ∉ D) : PlDone P g lv fl' last' nn W d D rb cs' (g5.setIfInBounds rb (.cells cs' 0 true [])) := by
  have hrb5 : rb < g5.size := Nat.lt_of_lt_of_le hrbs k5.1
  have k : Kept g5 (g5.setIfInBounds rb (.cells cs' 0 true [])) [rb] := ⟨by simp, fun c hc hn => set_other (fun e => hn (by simp [e]))⟩
  refine ⟨W5, D5, P', by simp [hrb5], pl.kept k ?_, ?_, hW, hD, hP⟩
  · intro c hc
    simp at hc
    subst hc
    refine ⟨fun q => ?_, fun q => ?_, fun q => ?_⟩
    · rcases hW _ q with r | r
      · exact nrb.2.1 r
      · omega
    · rcases hD _ q with r | r
      · exact nrb.2.2 r
      · omega
    · rcases hP _ q with r | r
      · exact nrb.1 r
      · omega
  · exact (k5.weak (fun c q => List.mem_cons_of_mem _ q)).trans (k.weak (by simp))

theorem mcells_one : ∀ ms : List Msg, ((ms.map Msg.cells).flatten).all oneCell = true
  | [] => rfl
  | m :: r => by
    have := mcells_one r
    simp only [List.map_cons, List.flatten_cons, List.all_append, this, Bool.and_true]
    rfl
theorem mcells_flat (ms : List Msg) : mcells ms = (ms.map Msg.cells).flatten := by
  unfold mcells
  rw [List.flatMap_def]

theorem mcells_at {ms : List Msg} {i : Nat} {m : Msg} (hm : ms[i]? = some m) (r : List Value) : ((mcells ms ++ r).drop (i * 3)).take 3 = m.cells := by
  induction ms generalizing i with
  | nil => simp at hm
  | cons a ms ih =>
    have e : mcells (a :: ms) ++ r = a.cells ++ (mcells ms ++ r) := by simp [mcells]
    cases i with
    | zero =>
      simp at hm
      subst hm
      rw [e]
      simp [Msg.cells]
    | succ i =>
      rw [e, Nat.succ_mul, Nat.add_comm, ← List.drop_drop, List.drop_left' (show a.cells.length = 3 from rfl)]
      exact ih (by simpa using hm)

end Go.Proofs.Ytmenfnapbggglaa

/- plays: Send. -/
set_option linter.unusedSimpArgs false
set_option linter.unusedVariables false
namespace Go.Ev
theorem LayO.cut0 {w : Nat} {h : H} {v : Value} {n : Nat} {own : List Nat} {cs : List Value} (s : LayO w h v n own cs) : ∃ v', slcV w v none (some (.int .i64 0)) = some v' ∧ LayO w h v' 0 own cs := by
  rcases s with ⟨rfl, rfl, rfl, rfl⟩ | ⟨b, an, rfl, c, rfl, h1, h2, h3⟩
  · exact ⟨_, by simp [slcV, optInt], .inl ⟨rfl, rfl, rfl, rfl⟩⟩
  · exact ⟨_, by simp [slcV, optInt], .inr ⟨b, an, rfl, c, rfl, h1, h2, by omega⟩⟩
theorem LayO.row {w : Nat} {h : H} {v : Value} {n : Nat} {own : List Nat} {cs : List Value} (s : LayO w h v n own cs) (hn : 0 < n) : ∃ b an c, own = b :: an ∧ v = .slice (some ⟨b, 0, none⟩) n c ∧ hget h b = some (.cells cs w true an) ∧ cs.length = c * w ∧ n ≤ c := by
  rcases s with ⟨rfl, rfl, rfl, rfl⟩ | ⟨b, an, rfl, c, rfl, h1, h2, h3⟩
  · omega
  · exact ⟨b, an, c, rfl, rfl, h1, h2, h3⟩
end Go.Ev
namespace Go.Proofs.Ytmenfnapbggglaa
open Go.Ev

theorem sameCell_int (k : IntKind) (n : Int) : sameCell (.int k n) (.int k n) = true := by simp [sameCell]
theorem sameCell_bool (b : Bool) : sameCell (.bool b) (.bool b) = true := by simp [sameCell]
def sentinels : List Value := [.int .i64 777, .int .i64 0, .string ⟨#[]⟩, .int .i64 778, .int .i64 0, .string ⟨#[]⟩]

set_option maxHeartbeats 2000000 in
theorem sendC_spec {F : Nat} (hF : 3000 ≤ F) {P OL : Nat → Prop} {g : H} {lv : Value} {fl : Flight} {last : Int} {nn : Bool} {W : List Nat} {cs : List Value} {d : Nat} {D : List Nat} (s : PlS P g lv fl last nn W cs d D) (gd : Gd fl last) (hlast : last ≤ 50000000) {wb sb rb : Nat} {kd on n at' turn : Int} {vm t38 : Value} {l : List Msg}
    (hwb : hget g wb = some (.cells cs 0 true [])) (hsb : hget g sb = some (.cells [.int .i64 kd, .int .i64 on, vm, .int .i64 n, .int .i64 at', .int .i64 turn] 0 true [])) (hrb : hget g rb = some (.cells [.slice none 0 0, .int .i64 0, .bool false] 0 true [])) (nrb : ¬ P rb ∧ rb ∉ W ∧ rb ∉ D)
    (sl : SlR OL 3 MsgC g vm l)
    {kn kr : K} {ke : Nat → K} {Q : Value → H → Prop}
    (hk : ∀ g' cs', PlDone P g lv (sendR nn fl last (cut l)).1 (sendR nn fl last (cut l)).2.1 nn W d D rb cs' g' → Ans (kr [(8, .pointer (some ⟨rb, 0, none⟩)), (9, .bool true)] g' []) Q) :
    Ans (evC F (cf F) sendC kn ke kr [(0, lv), (3, .pointer (some ⟨d, 0, none⟩)), (5, .pointer (some ⟨wb, 0, none⟩)), (6, .pointer (some ⟨sb, 0, none⟩)), (8, .pointer (some ⟨rb, 0, none⟩)), (37, .int .i64 kd), (38, t38)] g []) Q := by
  have hwbs := lt_of_get hwb
  have hsbs := lt_of_get hsb
  have hrbs := lt_of_get hrb
  have hpos := gd.w.pos
  have hcl := cut_le l
  have om := sl.one
  simp only [oneCell] at om
  simp (disch := first | omega | (simp only [newRow_size, Array.size_setIfInBounds, Array.size_push]; done) | (simp only [newRow_size, Array.size_setIfInBounds, Array.size_push]; omega)) [sendC, r25_3, hsb]
  refine Ans.next (cutS_spec (F := F) (by omega) sl) ?_
  rintro u g1 ⟨bm, k1⟩
  have y1 := k1.1
  obtain ⟨vq, hcs, hvq⟩ := s.rf
  have oq := hvq.one
  simp only [oneCell] at oq
  have hwb1 := (k1.get hwbs (by simp)).trans hwb
  rw [hcs] at hwb1
  simp (disch := first | omega | (simp only [newRow_size, Array.size_setIfInBounds, Array.size_push]; done) | (simp only [newRow_size, Array.size_setIfInBounds, Array.size_push]; omega)) [r25_4, hwb1, oq]
  rw [← hcs]
  have rf1 : RefL (fun c => P c ∨ g.size ≤ c) g1 cs fl last nn := s.rf.imp (fun _ _ q => .inl q) (keep_of k1.c (by simp))
  refine Ans.next (refSend_spec (F := F) (by omega) rf1 (fun c hc => .inr (by omega)) gd.len (by omega) bm.sl hcl) ?_
  rintro v g2 ⟨cs2, u2, rfl, rf2, su2, k2⟩
  have y2 := k2.1
  obtain ⟨v2, hcs2, hv2⟩ := id rf2
  have o2 := hv2.one
  have o2' := su2.one
  simp only [oneCell] at o2 o2'
  rw [hcs2]
  simp (disch := first | omega | (simp only [newRow_size, Array.size_setIfInBounds, Array.size_push]; done) | (simp only [newRow_size, Array.size_setIfInBounds, Array.size_push]; omega)) [o2, o2', eqT, eqF, neT, neF, ltT, ltF, leT, leF, nltT, nltF, nleT, nleF, nneT, nneF, List.getElem?_cons_zero, List.getElem?_cons_succ]
  rw [← hcs2]
  have hvb3 : hget (Ev.newRow g2 cs2 0 []) g2.size = some (.cells cs2 0 true []) := by simp
  have k3 := rowKept g2 cs2 0 []
  have z3 : (Ev.newRow g2 cs2 0 []).size = g2.size + 1 := by simp
  generalize Ev.newRow g2 cs2 0 [] = g3 at hvb3 k3 z3 ⊢
  have hln := bm.sl.len
  have bm3 := (bm.kept k2 (by simp) (fun _ _ _ q => q)).kept k3 (by simp) (fun _ _ _ q => q)
  have hsrc := mcells_read Msg.cells (fun _ _ q => q) (fun _ => rfl) bm3
  have k03 : Kept g g3 [] := (k1.trans k2).trans k3
  obtain ⟨v0, n0, own, csd, e1, e2, e3, e4, e5, e6, rfl⟩ := s.dk
  have hds : d < g.size := lt_of_get e1
  have e1' := (k03.get hds (by simp)).trans e1
  obtain ⟨v0', ec, lo0⟩ := (e2.kept k03 (by simp)).cut0
  have htx := bm.sl.ne_text
  simp only [isText] at htx
  have hM1 := mcells_one (cut l)
  have hM2 : ((cut l).map Msg.cells).flatten.length = (cut l).length * 3 := by rw [← mcells_flat, mcells_length]; omega
  have hM3 := mcells_flat (cut l)
  generalize hM : ((cut l).map Msg.cells).flatten = M at hsrc hM1 hM2 hM3
  clear hM
  simp (disch := first | omega | (simp only [newRow_size, Array.size_setIfInBounds, Array.size_push]; done) | (simp only [newRow_size, Array.size_setIfInBounds, Array.size_push]; omega)) [r25_5, hln, r25_6, e1', ec, hsrc, htx, hM1]
  refine Ans.next (lo0.appN (k := (cut l).length) (bytes := 32) e3 (fun c hc => by have := e5 c hc; have := k03.1; omega) (new := M) hM2 hM1 (by omega)) ?_
  rintro v1 g4 ⟨own1, cs1, lo1, hc1, nd1, lt1, m1⟩
  have y4 := m1.1.1
  rw [Nat.zero_add] at hc1 lo1
  rw [Nat.zero_mul, List.take_zero, List.nil_append] at hc1
  simp (disch := first | omega | (simp only [newRow_size, Array.size_setIfInBounds, Array.size_push]; done) | (simp only [newRow_size, Array.size_setIfInBounds, Array.size_push]; omega)) [r25_7, srcOf]
  have k5 := rowKept g4 sentinels 3 []
  have z5 : (Ev.newRow g4 sentinels 3 []).size = g4.size + 1 := by simp
  have lo5 := lo1.kept k5 (by simp)
  simp only [sentinels] at k5 z5 lo5
  generalize Ev.newRow g4 [.int .i64 777, .int .i64 0, .string ⟨#[]⟩, .int .i64 778, .int .i64 0, .string ⟨#[]⟩] 3 [] = g5 at k5 z5 lo5 ⊢
  refine Ans.next (lo5.appN (k := 2) (bytes := 32) nd1 (fun c hc => by have := lt1 c hc; omega) (new := [.int .i64 777, .int .i64 0, .string ⟨#[]⟩, .int .i64 778, .int .i64 0, .string ⟨#[]⟩]) rfl rfl (by omega)) ?_
  rintro room g6 ⟨own2, csr, lo6, hc6, nd6, lt6, m6⟩
  have y5 := k5.1
  have y6 := m6.1.1
  have y03 := k03.1
  have hown : ∀ c ∈ own1, c ∈ own ∨ g3.size ≤ c := m1.2
  have hown2 : ∀ c ∈ own2, c ∈ own ∨ g3.size ≤ c := by
    intro c hc
    rcases m6.2 c hc with q | q
    · exact hown c q
    · exact .inr (by omega)
  have k36 : Kept g3 g6 own := ⟨by omega, fun c hc hn => (m6.1.get (by omega) (fun q => by rcases hown c q with r | r; exact hn r; omega)).trans ((k5.get (by omega) (by simp)).trans (m1.1.get hc hn))⟩
  have hd6 := (k36.get (by omega) e4).trans e1'
  have hd6s := lt_of_get hd6
  have hdn2 : d ∉ own2 := fun q => by rcases hown2 d q with r | r; exact e4 r; omega
  obtain ⟨b, anb, c, rfl, rfl, hgb, hcl6, hle6⟩ := id (lo6.row (by omega))
  simp (disch := first | omega | (simp only [newRow_size, Array.size_setIfInBounds, Array.size_push]; done) | (simp only [newRow_size, Array.size_setIfInBounds, Array.size_push]; omega)) [r25_8, hd6]
  have k7 : Kept g6 (g6.setIfInBounds d (.cells [.slice (some ⟨b, 0, none⟩) ((cut l).length + 2) c] 0 true [])) [d] := ⟨by simp, fun c hc hn => set_other (fun e => hn (by simp [e]))⟩
  have hd7 : hget (g6.setIfInBounds d (.cells [.slice (some ⟨b, 0, none⟩) ((cut l).length + 2) c] 0 true [])) d = some (.cells [.slice (some ⟨b, 0, none⟩) ((cut l).length + 2) c] 0 true []) := by simp [hd6s]
  have z7 : (g6.setIfInBounds d (.cells [.slice (some ⟨b, 0, none⟩) ((cut l).length + 2) c] 0 true [])).size = g6.size := by simp
  generalize g6.setIfInBounds d (.cells [.slice (some ⟨b, 0, none⟩) ((cut l).length + 2) c] 0 true []) = g7 at k7 hd7 z7 ⊢
  have hn7 : ∀ x ∈ b :: anb, x ∉ [d] := by
    intro x hx q
    simp at q
    subst q
    exact hdn2 hx
  have lo7 := lo6.kept k7 hn7
  have hgb7 := (k7.get (lt_of_get hgb) (hn7 b (by simp))).trans hgb
  have hbW : ∀ x ∈ b :: anb, x ∉ W := by
    intro x hx q
    rcases hown2 x hx with r | r
    · exact s.wd x (by simp [r]) q
    · have := s.ls.lt x q
      omega
  have k07 : Kept g g7 (d :: own) := ⟨by omega, fun x hx hn => by
    simp only [List.mem_cons, not_or] at hn
    exact (k7.get (by omega) (by simp [hn.1])).trans ((k36.get (by omega) hn.2).trans (k03.get hx (by simp)))⟩
  have ls7 := s.ls.kept k07 (fun x hx q => s.wd x q hx)
  have hnle : (cut l).length ≤ c := by omega
  have hlen0 : M.length ≤ csr.length := by rw [hM2, hcl6]; omega
  have hc6' : csr.take (((cut l).length + 2) * 3) = M ++ sentinels := by rw [hc6, hc1]; rfl
  have mv7 : MsgsAt g7 (.slice (some ⟨b, 0, none⟩) (cut l).length c) (cut l) := by
    refine .inr ⟨b, 0, c, csr, 3, true, anb, rfl, hgb7, by omega, ?_⟩
    rw [List.drop_zero, hM3]
    have := congrArg (List.take (3 * (cut l).length)) hc6'
    rw [List.take_take, Nat.min_eq_left (by omega), List.take_left' (show M.length = 3 * (cut l).length by omega)] at this
    exact this
  simp (disch := first | omega | (simp only [newRow_size, Array.size_setIfInBounds, Array.size_push]; done) | (simp only [newRow_size, Array.size_setIfInBounds, Array.size_push]; omega)) [r25_9, slcV, optInt, hnle]
  refine Ans.next (ls7.send (F := F) (by omega) gd.w (by omega) mv7 (by omega) (by intro x o n' c' e; injection e with e1 _ _; injection e1 with e1; injection e1 with e1 _ _; subst e1; exact hbW _ (by simp))) ?_
  rintro got g8 ⟨sgot, W', ls8, m8⟩
  have y8 := m8.1.1
  have og := sgot.one
  simp only [oneCell] at og
  have hgb8 := (m8.1.get (lt_of_get hgb7) (hbW b (by simp))).trans hgb7
  have lo8 := lo7.kept m8.1 hbW
  have h777 : (csr.drop ((cut l).length * 3)).take 1 = [.int .i64 777] ∧ (csr.drop (((cut l).length + 1) * 3)).take 1 = [.int .i64 778] := by
    have h1 : (csr.drop ((cut l).length * 3)).take 6 = sentinels := by
      have := congrArg (List.drop ((cut l).length * 3)) hc6'
      rw [List.drop_take, List.drop_left' hM2, show ((cut l).length + 2) * 3 - (cut l).length * 3 = 6 by omega] at this
      exact this
    constructor
    · have := congrArg (List.take 1) h1
      rw [List.take_take] at this
      exact this
    · have := congrArg (fun z => (z.drop 3).take 1) h1
      simp only [List.drop_take, List.drop_drop, List.take_take] at this
      rw [Nat.succ_mul]
      exact this
  have hw : IntKind.i64.wrap (((cut l).length : Int) + 1) = (((cut l).length + 1 : Nat) : Int) := by rw [wrap_id (by omega) (by omega)]; rfl
  have hb1 : (cut l).length < (cut l).length + 2 := by omega
  have hb2 : (cut l).length + 1 < (cut l).length + 2 := by omega
  have hb3 : (cut l).length * 3 + 1 ≤ csr.length := by omega
  have hb4 : ((cut l).length + 1) * 3 + 1 ≤ csr.length := by omega
  simp (disch := first | omega | (simp only [newRow_size, Array.size_setIfInBounds, Array.size_push]; done) | (simp only [newRow_size, Array.size_setIfInBounds, Array.size_push]; omega)) [r25_10, hgb8, h777.1, h777.2, eqT, eqF, neT, neF, ltT, ltF, leT, leF, nltT, nltF, nleT, nleF, nneT, nneF, List.getElem?_cons_zero, List.getElem?_cons_succ, hw, hb1, hb2, hb3, hb4]
  have hDl : ∀ x ∈ own, x < g.size := e5
  have y7 := k07.1
  have bm8 : SlR (fun x => g.size ≤ x ∧ x < g1.size) 3 MsgC g8 u (cut l) := by
    refine SlM.imp bm.sl (fun x hx q => ⟨q, hx⟩) (fun x zs hx hz => (cel_congr ?_).trans hz)
    have hx' : g.size ≤ x := hx
    have hxl := cel_lt hz
    have hxo : x ∉ own := fun q => by have := hDl x q; omega
    refine (m8.1.get (by omega) (fun q => by have := s.ls.lt x q; omega)).trans ((k7.get (by omega) (by simp; omega)).trans ((k36.get (by omega) hxo).trans ((k3.get (by omega) (by simp)).trans (k2.get hxl (by simp)))))
  refine lpC_spec (F := F) (by omega) bm8 hcl lo8 (by omega) nd6 (fun x hx => by have := lt6 x hx; omega) ?_ ?_ ?_
  · intro x hx q
    rcases hown2 x hx with r | r
    · have := hDl x r; omega
    · omega
  · intro i m hm
    have hi := (List.getElem?_eq_some_iff.1 hm).1
    have := mcells_at hm sentinels
    rw [hM3, ← hc6', List.drop_take, List.take_take, Nat.min_eq_left (by omega)] at this
    exact this
  intro g9 own3 cs3 e lo9 nd9 lt9 m9
  have y9 := m9.1.1
  have hown3 : ∀ x ∈ own3, x ∈ own ∨ g3.size ≤ x := by
    intro x hx
    rcases m9.2 x hx with r | r
    · exact hown2 x r
    · exact .inr (by omega)
  have hW'l := ls8.lt
  have hfar9 : ∀ x, x < g.size → x ∉ d :: own → x ∉ W → hget g9 x = hget g x := by
    intro x hx hn hw
    simp only [List.mem_cons, not_or] at hn
    refine (m9.1.get (by omega) (fun q => ?_)).trans ((m8.1.get (by omega) hw).trans (k07.get hx (by simp [hn])))
    rcases hown2 x q with r | r
    · exact hn.2 r
    · omega
  have hnew9 : ∀ x, g.size ≤ x → x < g3.size → hget g9 x = hget g3 x := by
    intro x hx hl
    have hxo : x ∉ own := fun q => by have := hDl x q; omega
    refine (m9.1.get (by omega) (fun q => ?_)).trans ((m8.1.get (by omega) (fun q => by have := s.ls.lt x q; omega)).trans ((k7.get (by omega) (by simp; omega)).trans (k36.get hl hxo)))
    rcases hown2 x q with r | r
    · exact hxo r
    · omega
  have hvb9 := (hnew9 g2.size (by omega) (by omega)).trans hvb3
  have hrb9 := (hfar9 rb hrbs nrb.2.2 nrb.2.1).trans hrb
  have hvb9s := lt_of_get hvb9
  have hrb9s := lt_of_get hrb9
  have hdW : d ∉ W := s.wd d (by simp)
  have hdW' : d ∉ W' := fun q => by
    rcases m8.2 d q with r | r
    · exact hdW r
    · omega
  have hd9 := (m9.1.get (by omega) hdn2).trans ((m8.1.get (by omega) hdW).trans hd7)
  have hW'2 : ∀ x ∈ W', x ∈ W ∨ g7.size ≤ x := m8.2
  have hW'n : ∀ x ∈ W', x ∉ b :: anb := by
    intro x hx q
    rcases hW'2 x hx with r | r
    · exact hbW x q r
    · have := lt6 x q; omega
  have ls9 := ls8.kept m9.1 hW'n
  have got9 : SlR (fun x => g7.size ≤ x ∧ x < g8.size) 1 IntC g9 got (sendR nn fl last (cut l)).2.2 := by
    refine SlI.imp sgot (fun x hx q => ⟨q, hx⟩) (fun x zs hx hz => (cel_congr ?_).trans hz)
    have hx' : g7.size ≤ x := hx
    exact m9.1.get (cel_lt hz) (fun q => by have := lt6 x q; omega)
  have want9 : SlR (fun x => g1.size ≤ x ∧ x < g2.size) 1 IntC g9 u2 (sendR nn fl last (cut l)).2.2 := by
    refine SlI.imp su2 (fun x hx q => ⟨q, hx⟩) (fun x zs hx hz => (cel_congr ?_).trans hz)
    have hx' : g1.size ≤ x := hx
    have hxl := cel_lt hz
    exact (hnew9 x (by omega) (by omega)).trans (k3.get hxl (by simp))
  have sv2 := hv2.same
  have ne1 : ¬ rb = g2.size := by omega
  have hns := sendR_ns nn (cut l) fl last
  obtain ⟨gg, hgg, hints⟩ : ∃ gg, gg = g9 ∧ cf F 27 [got, u2] g9 = some (.bool true, gg) := by
    obtain ⟨r, h', e1, e2, e3⟩ := ints_same (F := F) (by omega) got9 want9 (by omega)
    subst e2 e3
    exact ⟨_, rfl, e1⟩
  subst hgg
  rw [hcs2] at hvb9
  simp (disch := first | omega | (simp only [newRow_size, Array.size_setIfInBounds, Array.size_push]; done) | (simp only [newRow_size, Array.size_setIfInBounds, Array.size_push]; omega)) [d25_17, dk_go, chks_nil, chks_cons, chkA_nil, chkA_cons, chk1_no, chk1_yes, chkV_some, hAt_eq, hOf_some, hOf_none, sameV, sameL, hvb9, hrb9, hints, o2, eqT, eqF, neT, neF, ltT, ltF, leT, leF, nltT, nltF, nleT, nleF, nneT, nneF, List.getElem?_cons_zero, List.getElem?_cons_succ, sv2, ne1, sameCell_int, sameCell_bool]
  rw [← hcs2]
  refine hk _ _ (PlDone.of (P' := fun x => (P x ∨ g.size ≤ x) ∧ x < g2.size) (W5 := W') (D5 := d :: own3) ⟨ls9, ?_, ?_, ?_, ?_, ?_, fun x hx => by have := hx.2; omega⟩ ?_ ?_ ?_ (fun x hx => hx.1) hrbs nrb)
  · refine rf2.imp (fun x hx q => ⟨q, hx⟩) (fun x zs hx hz => (cel_congr ?_).trans hz)
    have hxl := cel_lt hz
    rcases Nat.lt_or_ge x g.size with hl | hl
    · rcases hx with q | q
      · exact (hfar9 x hl (fun r => s.pd x r q) (fun r => s.pw x r q)).trans (((k03.get hl (by simp)).symm).trans (k3.get hxl (by simp)))
      · omega
    · exact (hnew9 x hl (by omega)).trans (k3.get hxl (by simp))
  · refine ⟨_, _, own3, cs3, hd9, lo9, nd9, fun q => ?_, lt9, by omega, rfl⟩
    rcases m9.2 d q with r | r
    · exact hdn2 r
    · omega
  · intro x hx q
    rcases List.mem_cons.1 hx with rfl | hx
    · rcases q.1 with r | r
      · exact s.pd x (by simp) r
      · omega
    · rcases hown3 x hx with r | r
      · rcases q.1 with r' | r'
        · exact s.pd x (by simp [r]) r'
        · have := hDl x r; omega
      · have := q.2; omega
  · intro x hx q
    rcases List.mem_cons.1 hx with rfl | hx
    · exact hdW' q
    · rcases m9.2 x hx with r | r
      · exact hW'n x q r
      · have := hW'l x q; omega
  · intro x hx q
    rcases hW'2 x hx with r | r
    · rcases q.1 with r' | r'
      · exact s.pw x r r'
      · have := s.ls.lt x r; omega
    · have := q.2; omega
  · refine ⟨by omega, fun x hx hn => ?_⟩
    rw [List.mem_append, not_or] at hn
    exact hfar9 x hx hn.2 hn.1
  · intro x hx
    rcases hW'2 x hx with r | r
    · exact .inl r
    · exact .inr (by omega)
  · intro x hx
    rcases List.mem_cons.1 hx with rfl | hx
    · exact .inl (by simp)
    · rcases hown3 x hx with r | r
      · exact .inl (by simp [r])
      · exact .inr (by omega)

end Go.Proofs.Ytmenfnapbggglaa

/- plays: Take, Double, Spoil. -/
set_option linter.unusedSimpArgs false
set_option linter.unusedVariables false
namespace Go.Proofs.Ytmenfnapbggglaa
open Go.Ev

theorem sameCell_str (b : ByteArray) : sameCell (.string b) (.string b) = true := by
  have := ba_self b
  simp [sameCell, this]
theorem numE {F : Nat} (hF : 1 ≤ F) (n : Int) (h : H) : cf F 20 [.int .i64 n] h = some (.int .i64 n, h) := by
  obtain ⟨F, rfl⟩ : ∃ G, F = G + 1 := ⟨F - 1, by omega⟩
  exact num_eq F n h

theorem PlDone.mid {P : Nat → Prop} {g g1 g2 g3 g4 : H} {lv : Value} {fl fl' : Flight} {last last' : Int} {nn : Bool} {W D cs cs2 : List _} {d rb : Nat} (s : PlS P g lv fl last nn W cs d D)
    (rf : RefL (fun c => P c ∨ g.size ≤ c) g1 cs2 fl' last' nn) (k1 : Kept g g1 []) (k2 : Kept g1 g2 []) (ls : LS g3 lv fl' last' nn W) (k3 : Kept g2 g3 W) (k4 : Kept g3 g4 []) (hrbs : rb < g.size) (nrb : ¬ P rb ∧ rb ∉ W ∧ rb ∉ D) :
    PlDone P g lv fl' last' nn W d D rb cs2 (g4.setIfInBounds rb (.cells cs2 0 true [])) := by
  have y1 := k1.1
  have y2 := k2.1
  have y3 := k3.1
  have y4 := k4.1
  have hWl := s.ls.lt
  have k04 : Kept g g4 W := ⟨by omega, fun c hc hn => (k4.get (by omega) (by simp)).trans ((k3.get (by omega) hn).trans ((k2.get (by omega) (by simp)).trans (k1.get hc (by simp))))⟩
  refine PlDone.of (P' := fun x => (P x ∨ g.size ≤ x) ∧ x < g1.size) (W5 := W) (D5 := D) ⟨ls.kept k4 (by simp), ?_, s.dk.kept k04 s.wd, ?_, s.wd, ?_, fun x hx => by have := hx.2; omega⟩ (k04.weak (fun c hc => List.mem_append_left _ hc)) (fun c hc => .inl hc) (fun c hc => .inl hc) (fun x hx => hx.1) hrbs nrb
  · refine rf.imp (fun x hx q => ⟨q, hx⟩) (fun x zs hx hz => (cel_congr ?_).trans hz)
    have hxl := cel_lt hz
    refine (k4.get (by omega) (by simp)).trans ((k3.get (by omega) (fun q => ?_)).trans (k2.get hxl (by simp)))
    rcases hx with r | r
    · exact s.pw x q r
    · have := hWl x q; omega
  · intro x hx q
    rcases q.1 with r | r
    · exact s.pd x hx r
    · have := s.dk.lt x hx; omega
  · intro x hx q
    rcases q.1 with r | r
    · exact s.pw x hx r
    · have := hWl x hx; omega

set_option maxHeartbeats 2000000 in
theorem takeC_spec {F : Nat} (hF : 3000 ≤ F) {P : Nat → Prop} {g : H} {lv : Value} {fl : Flight} {last : Int} {nn : Bool} {W : List Nat} {cs : List Value} {d : Nat} {D : List Nat} (s : PlS P g lv fl last nn W cs d D) (gd : Gd fl last) {wb sb rb : Nat} {kd on n at' turn : Int} {vm t : Value}
    (hwb : hget g wb = some (.cells cs 0 true [])) (hsb : hget g sb = some (.cells [.int .i64 kd, .int .i64 on, vm, .int .i64 n, .int .i64 at', .int .i64 turn] 0 true [])) (hrb : hget g rb = some (.cells [.slice none 0 0, .int .i64 0, .bool false] 0 true [])) (nrb : ¬ P rb ∧ rb ∉ W ∧ rb ∉ D)
    {kn kr : K} {ke : Nat → K} {Q : Value → H → Prop}
    (hk : ∀ g' cs', PlDone P g lv (takeR n fl) last nn W d D rb cs' g' → Ans (kr [(8, .pointer (some ⟨rb, 0, none⟩)), (9, .bool true)] g' []) Q) :
    Ans (evC F (cf F) takeC kn ke kr [(0, lv), (5, .pointer (some ⟨wb, 0, none⟩)), (6, .pointer (some ⟨sb, 0, none⟩)), (8, .pointer (some ⟨rb, 0, none⟩)), (37, .int .i64 kd), (115, t)] g []) Q := by
  have hwbs := lt_of_get hwb
  have hsbs := lt_of_get hsb
  have hrbs := lt_of_get hrb
  obtain ⟨vq, hcs, hvq⟩ := s.rf
  have oq := hvq.one
  simp only [oneCell] at oq
  have hwb' := hwb
  rw [hcs] at hwb'
  simp (disch := first | omega | (simp only [newRow_size, Array.size_setIfInBounds, Array.size_push]; done) | (simp only [newRow_size, Array.size_setIfInBounds, Array.size_push]; omega)) [takeC, r25_19, hwb', hsb, oq]
  rw [← hcs]
  have rf0 : RefL (fun c => P c ∨ g.size ≤ c) g cs fl last nn := s.rf.imp (fun _ _ q => .inl q) (fun _ _ _ e => e)
  refine Ans.next (refTake_spec (F := F) (by omega) rf0 (fun c hc => .inr hc) gd.len s.ls.none_fl n) ?_
  rintro v g1 ⟨cs2, rfl, rf1, k1⟩
  have y1 := k1.1
  generalize hM : (lookM n fl).1 = M
  generalize hE : (lookM n fl).2 = Ee
  have hMv : M.val = .agg ⟨[.int .i64 M.fr, .int .i64 M.to, .string M.b]⟩ := rfl
  have hMc : M.cells = [.int .i64 M.fr, .int .i64 M.to, .string M.b] := rfl
  rw [hMc]
  obtain ⟨v2, hcs2, hv2⟩ := id rf1
  have o2 := hv2.one
  have sv2 := hv2.same
  simp only [oneCell] at o2
  rw [hcs2]
  simp (disch := first | omega | (simp only [newRow_size, Array.size_setIfInBounds, Array.size_push]; done) | (simp only [newRow_size, Array.size_setIfInBounds, Array.size_push]; omega)) [o2, eqT, eqF, neT, neF, ltT, ltF, leT, leF, nltT, nltF, nleT, nleF, nneT, nneF, List.getElem?_cons_zero, List.getElem?_cons_succ]
  rw [← hcs2]
  generalize hmm : [Value.int .i64 M.fr, .int .i64 M.to, .string M.b] = mm
  generalize hgg : ((Ev.newRow (Ev.newRow g1 [.slice none 0 0, .int .i64 0, .bool false] 0 []) [.int .i64 0, .int .i64 0, .string ⟨#[]⟩] 0 []).setIfInBounds g1.size (.cells cs2 0 true [])).setIfInBounds (g1.size + 1) (.cells mm 0 true []) = g2
  have m0 : hget g2 g1.size = some (.cells cs2 0 true []) := by rw [← hgg]; simp (disch := first | omega | (simp only [newRow_size, Array.size_setIfInBounds, Array.size_push]; done) | (simp only [newRow_size, Array.size_setIfInBounds, Array.size_push]; omega)) []
  have m1 : hget g2 (g1.size + 1) = some (.cells mm 0 true []) := by rw [← hgg]; simp (disch := first | omega | (simp only [newRow_size, Array.size_setIfInBounds, Array.size_push]; done) | (simp only [newRow_size, Array.size_setIfInBounds, Array.size_push]; omega)) []
  have k2 : Kept g1 g2 [] := by rw [← hgg]; exact kept_set (kept_set (kept_row (rowKept _ _ _ _) _ _ _) (Nat.le_refl _) _) (by omega) _
  have z2 : g2.size = g1.size + 2 := by rw [← hgg]; simp
  clear hgg
  have k02 := k1.trans k2
  have hsb2 := (k02.get hsbs (by simp)).trans hsb
  have ls2 := s.ls.kept k02 (by simp)
  simp (disch := first | omega | (simp only [newRow_size, Array.size_setIfInBounds, Array.size_push]; done) | (simp only [newRow_size, Array.size_setIfInBounds, Array.size_push]; omega)) [r25_20, hsb2]
  refine Ans.next (ls2.take (F := F) (by omega) gd.w n) ?_
  rintro v g3 ⟨rfl, ls3, k3⟩
  have y3 := k3.1
  have hWl := s.ls.lt
  rw [hM, hE, hMv]
  simp (disch := first | omega | (simp only [newRow_size, Array.size_setIfInBounds, Array.size_push]; done) | (simp only [newRow_size, Array.size_setIfInBounds, Array.size_push]; omega)) [eqT, eqF, neT, neF, ltT, ltF, leT, leF, nltT, nltF, nleT, nleF, nneT, nneF, List.getElem?_cons_zero, List.getElem?_cons_succ]
  have n0 := (k3.get (by omega) (fun q => by have := hWl _ q; omega)).trans m0
  have n1 := (k3.get (by omega) (fun q => by have := hWl _ q; omega)).trans m1
  have nr := (k3.get (by omega) nrb.2.1).trans ((k02.get hrbs (by simp)).trans hrb)
  generalize hmm2 : [Value.int .i64 M.fr, .int .i64 M.to, .string M.b] = mm2
  have k4 := rowKept g3 mm2 0 []
  have m2 : hget (Ev.newRow g3 mm2 0 []) g3.size = some (.cells mm2 0 true []) := by simp
  have z4 : (Ev.newRow g3 mm2 0 []).size = g3.size + 1 := by simp
  generalize Ev.newRow g3 mm2 0 [] = g4 at k4 m2 z4 ⊢
  have n0' := (k4.get (by omega) (by simp)).trans n0
  have n1' := (k4.get (by omega) (by simp)).trans n1
  have nr' := (k4.get (by omega) (by simp)).trans nr
  subst hmm hmm2
  have n0s := lt_of_get n0'
  have n1s := lt_of_get n1'
  have nrs := lt_of_get nr'
  have m2s := lt_of_get m2
  have heq := ba_self M.b
  have ne1 : ¬ rb = g1.size := by omega
  have ne2 : ¬ rb = g1.size + 1 := by omega
  have ne3 : ¬ rb = g3.size := by omega
  have n0'' := n0'
  rw [hcs2] at n0''
  simp (disch := first | omega | (simp only [newRow_size, Array.size_setIfInBounds, Array.size_push]; done) | (simp only [newRow_size, Array.size_setIfInBounds, Array.size_push]; omega)) [d25_21, dk_go, chks_nil, chks_cons, chkA_nil, chkA_cons, chk1_no, chk1_yes, chkV_some, hAt_eq, hOf_some, hOf_none, sameV, sameL, n0'', n1', nr', m2, numE (F := F) (by omega), o2, eqT, eqF, neT, neF, ltT, ltF, leT, leF, nltT, nltF, nleT, nleF, nneT, nneF, List.getElem?_cons_zero, List.getElem?_cons_succ, sv2, ne1, ne2, ne3, sameCell_int, sameCell_bool, heq, sameCell_str]
  rw [← hcs2]
  exact hk _ _ (PlDone.mid s rf1 k1 k2 ls3 k3 k4 hrbs nrb)

set_option maxHeartbeats 2000000 in
theorem dblC_spec {F : Nat} (hF : 3000 ≤ F) {P : Nat → Prop} {g : H} {lv : Value} {fl : Flight} {last : Int} {nn : Bool} {W : List Nat} {cs : List Value} {d : Nat} {D : List Nat} (s : PlS P g lv fl last nn W cs d D) (gd : Gd fl last) (hlast : last ≤ 50000000) {wb sb rb : Nat} {kd on n at' turn : Int} {vm t : Value}
    (hwb : hget g wb = some (.cells cs 0 true [])) (hsb : hget g sb = some (.cells [.int .i64 kd, .int .i64 on, vm, .int .i64 n, .int .i64 at', .int .i64 turn] 0 true [])) (hrb : hget g rb = some (.cells [.slice none 0 0, .int .i64 0, .bool false] 0 true [])) (nrb : ¬ P rb ∧ rb ∉ W ∧ rb ∉ D)
    {kn kr : K} {ke : Nat → K} {Q : Value → H → Prop}
    (hk : ∀ g' cs', PlDone P g lv (doubleR nn n fl last).1 (doubleR nn n fl last).2.1 nn W d D rb cs' g' → Ans (kr [(8, .pointer (some ⟨rb, 0, none⟩)), (9, .bool true)] g' []) Q) :
    Ans (evC F (cf F) dblC kn ke kr [(0, lv), (5, .pointer (some ⟨wb, 0, none⟩)), (6, .pointer (some ⟨sb, 0, none⟩)), (8, .pointer (some ⟨rb, 0, none⟩)), (37, .int .i64 kd), (142, t)] g []) Q := by
  have hwbs := lt_of_get hwb
  have hsbs := lt_of_get hsb
  have hrbs := lt_of_get hrb
  have hpos := gd.w.pos
  obtain ⟨vq, hcs, hvq⟩ := s.rf
  have oq := hvq.one
  simp only [oneCell] at oq
  have hwb' := hwb
  rw [hcs] at hwb'
  simp (disch := first | omega | (simp only [newRow_size, Array.size_setIfInBounds, Array.size_push]; done) | (simp only [newRow_size, Array.size_setIfInBounds, Array.size_push]; omega)) [dblC, r25_23, hwb', hsb, oq]
  rw [← hcs]
  have rf0 : RefL (fun c => P c ∨ g.size ≤ c) g cs fl last nn := s.rf.imp (fun _ _ q => .inl q) (fun _ _ _ e => e)
  refine Ans.next (refDouble_spec (F := F) (by omega) rf0 (fun c hc => .inr hc) gd.len (by omega) n) ?_
  rintro v g1 ⟨cs2, rfl, rf1, k1⟩
  have y1 := k1.1
  generalize hr1 : (doubleR nn n fl last).1 = fl' at rf1 hk
  generalize hr2 : (doubleR nn n fl last).2.1 = last' at rf1 hk
  generalize hr3 : (doubleR nn n fl last).2.2.1 = r3
  generalize hr4 : (doubleR nn n fl last).2.2.2 = r4
  obtain ⟨v2, hcs2, hv2⟩ := id rf1
  have o2 := hv2.one
  have sv2 := hv2.same
  simp only [oneCell] at o2
  rw [hcs2]
  simp (disch := first | omega | (simp only [newRow_size, Array.size_setIfInBounds, Array.size_push]; done) | (simp only [newRow_size, Array.size_setIfInBounds, Array.size_push]; omega)) [o2, eqT, eqF, neT, neF, ltT, ltF, leT, leF, nltT, nltF, nleT, nleF, nneT, nneF, List.getElem?_cons_zero, List.getElem?_cons_succ]
  rw [← hcs2]
  have m0 : hget (Ev.newRow g1 cs2 0 []) g1.size = some (.cells cs2 0 true []) := by simp (disch := first | omega | (simp only [newRow_size, Array.size_setIfInBounds, Array.size_push]; done) | (simp only [newRow_size, Array.size_setIfInBounds, Array.size_push]; omega)) []
  have k2 := rowKept g1 cs2 0 []
  have z2 : (Ev.newRow g1 cs2 0 []).size = g1.size + 1 := by simp
  generalize Ev.newRow g1 cs2 0 [] = g2 at m0 k2 z2 ⊢
  have k02 := k1.trans k2
  have hsb2 := (k02.get hsbs (by simp)).trans hsb
  have ls2 := s.ls.kept k02 (by simp)
  simp (disch := first | omega | (simp only [newRow_size, Array.size_setIfInBounds, Array.size_push]; done) | (simp only [newRow_size, Array.size_setIfInBounds, Array.size_push]; omega)) [r25_24, hsb2]
  refine Ans.next (ls2.double (F := F) (by omega) gd.w (by omega) n) ?_
  rintro v g3 ⟨rfl, ls3, k3⟩
  have y3 := k3.1
  have hWl := s.ls.lt
  rw [hr1, hr2] at ls3
  rw [hr3, hr4]
  have n0 := (k3.get (by omega) (fun q => by have := hWl _ q; omega)).trans m0
  have nr := (k3.get (by omega) nrb.2.1).trans ((k02.get hrbs (by simp)).trans hrb)
  have n0s := lt_of_get n0
  have nrs := lt_of_get nr
  have ne1 : ¬ rb = g1.size := by omega
  have n0'' := n0
  rw [hcs2] at n0''
  simp (disch := first | omega | (simp only [newRow_size, Array.size_setIfInBounds, Array.size_push]; done) | (simp only [newRow_size, Array.size_setIfInBounds, Array.size_push]; omega)) [eqT, eqF, neT, neF, ltT, ltF, leT, leF, nltT, nltF, nleT, nleF, nneT, nneF, List.getElem?_cons_zero, List.getElem?_cons_succ, d25_25, dk_go, chks_nil, chks_cons, chkA_nil, chkA_cons, chk1_no, chk1_yes, chkV_some, hAt_eq, hOf_some, hOf_none, sameV, sameL, n0'', nr, numE (F := F) (by omega), o2, sv2, ne1, sameCell_int, sameCell_bool]
  rw [← hcs2]
  exact hk _ _ (PlDone.mid s rf1 k1 k2 ls3 k3 (Kept.refl _ _) hrbs nrb)

set_option maxHeartbeats 2000000 in
theorem splC_spec {F : Nat} (hF : 3000 ≤ F) {P : Nat → Prop} {g : H} {lv : Value} {fl : Flight} {last : Int} {nn : Bool} {W : List Nat} {cs : List Value} {d : Nat} {D : List Nat} (s : PlS P g lv fl last nn W cs d D) (gd : Gd fl last) {wb sb rb : Nat} {kd on n at' turn : Int} {vm t : Value}
    (hwb : hget g wb = some (.cells cs 0 true [])) (hsb : hget g sb = some (.cells [.int .i64 kd, .int .i64 on, vm, .int .i64 n, .int .i64 at', .int .i64 turn] 0 true [])) (hrb : hget g rb = some (.cells [.slice none 0 0, .int .i64 0, .bool false] 0 true [])) (nrb : ¬ P rb ∧ rb ∉ W ∧ rb ∉ D)
    {kn kr : K} {ke : Nat → K} {Q : Value → H → Prop}
    (hk : ∀ g' cs', PlDone P g lv (spoilR n at' turn fl).1 last nn W d D rb cs' g' → Ans (kr [(8, .pointer (some ⟨rb, 0, none⟩)), (9, .bool true)] g' []) Q) :
    Ans (evC F (cf F) splC kn ke kr [(0, lv), (5, .pointer (some ⟨wb, 0, none⟩)), (6, .pointer (some ⟨sb, 0, none⟩)), (8, .pointer (some ⟨rb, 0, none⟩)), (37, .int .i64 kd), (169, t)] g []) Q := by
  have hwbs := lt_of_get hwb
  have hsbs := lt_of_get hsb
  have hrbs := lt_of_get hrb
  obtain ⟨vq, hcs, hvq⟩ := s.rf
  have oq := hvq.one
  simp only [oneCell] at oq
  have hwb' := hwb
  rw [hcs] at hwb'
  simp (disch := first | omega | (simp only [newRow_size, Array.size_setIfInBounds, Array.size_push]; done) | (simp only [newRow_size, Array.size_setIfInBounds, Array.size_push]; omega)) [splC, r25_27, hwb', hsb, oq]
  rw [← hcs]
  have rf0 : RefL (fun c => P c ∨ g.size ≤ c) g cs fl last nn := s.rf.imp (fun _ _ q => .inl q) (fun _ _ _ e => e)
  refine Ans.next (refSpoil_spec (F := F) (by omega) rf0 (fun c hc => .inr hc) gd.len s.ls.none_fl gd.sl n at' turn) ?_
  rintro v g1 ⟨cs2, rfl, rf1, k1⟩
  have y1 := k1.1
  generalize hr1 : (spoilR n at' turn fl).1 = fl' at rf1 hk
  generalize hr2 : (spoilR n at' turn fl).2 = r2
  obtain ⟨v2, hcs2, hv2⟩ := id rf1
  have o2 := hv2.one
  have sv2 := hv2.same
  simp only [oneCell] at o2
  rw [hcs2]
  simp (disch := first | omega | (simp only [newRow_size, Array.size_setIfInBounds, Array.size_push]; done) | (simp only [newRow_size, Array.size_setIfInBounds, Array.size_push]; omega)) [o2, eqT, eqF, neT, neF, ltT, ltF, leT, leF, nltT, nltF, nleT, nleF, nneT, nneF, List.getElem?_cons_zero, List.getElem?_cons_succ]
  rw [← hcs2]
  have m0 : hget (Ev.newRow g1 cs2 0 []) g1.size = some (.cells cs2 0 true []) := by simp (disch := first | omega | (simp only [newRow_size, Array.size_setIfInBounds, Array.size_push]; done) | (simp only [newRow_size, Array.size_setIfInBounds, Array.size_push]; omega)) []
  have k2 := rowKept g1 cs2 0 []
  have z2 : (Ev.newRow g1 cs2 0 []).size = g1.size + 1 := by simp
  generalize Ev.newRow g1 cs2 0 [] = g2 at m0 k2 z2 ⊢
  have k02 := k1.trans k2
  have hsb2 := (k02.get hsbs (by simp)).trans hsb
  have ls2 := s.ls.kept k02 (by simp)
  simp (disch := first | omega | (simp only [newRow_size, Array.size_setIfInBounds, Array.size_push]; done) | (simp only [newRow_size, Array.size_setIfInBounds, Array.size_push]; omega)) [r25_28, hsb2]
  refine Ans.next (ls2.spoil (F := F) (by omega) n at' turn) ?_
  rintro v g3 ⟨rfl, ls3, k3⟩
  have y3 := k3.1
  have hWl := s.ls.lt
  rw [hr1] at ls3
  rw [hr2]
  have n0 := (k3.get (by omega) (fun q => by have := hWl _ q; omega)).trans m0
  have nr := (k3.get (by omega) nrb.2.1).trans ((k02.get hrbs (by simp)).trans hrb)
  have n0s := lt_of_get n0
  have nrs := lt_of_get nr
  have ne1 : ¬ rb = g1.size := by omega
  have n0'' := n0
  rw [hcs2] at n0''
  simp (disch := first | omega | (simp only [newRow_size, Array.size_setIfInBounds, Array.size_push]; done) | (simp only [newRow_size, Array.size_setIfInBounds, Array.size_push]; omega)) [eqT, eqF, neT, neF, ltT, ltF, leT, leF, nltT, nltF, nleT, nleF, nneT, nneF, List.getElem?_cons_zero, List.getElem?_cons_succ, d25_29, dk_go, chks_nil, chks_cons, chkA_nil, chkA_cons, chk1_no, chk1_yes, chkV_some, hAt_eq, hOf_some, hOf_none, sameV, sameL, n0'', nr, numE (F := F) (by omega), o2, sv2, ne1, sameCell_int, sameCell_bool]
  rw [← hcs2]
  exact hk _ _ (PlDone.mid s rf1 k1 k2 ls3 k3 (Kept.refl _ _) hrbs nrb)

end Go.Proofs.Ytmenfnapbggglaa

/- plays: Look, Numbers; plays itself. -/
set_option linter.unusedSimpArgs false
set_option linter.unusedVariables false
namespace Go.Proofs.Ytmenfnapbggglaa
open Go.Ev

theorem sameV_int (k : IntKind) (n : Int) : sameV (.int k n) (.int k n) = true := by simp [sameV, sameCell]
theorem sameV_agg (l m : List Value) : sameV (.agg ⟨l⟩) (.agg ⟨m⟩) = sameL l m := rfl
theorem sameV_sl {ok : Nat → Prop} {w : Nat} {α : Type} {R : H → List Value → α → Prop} {h : H} {v : Value} {xs : List α} (s : SlR ok w R h v xs) : sameV v v = true := by
  rcases s with ⟨rfl | rfl, rfl⟩ | ⟨b, o, c, cs, rfl, _⟩ <;> simp [sameV, sameCell]

set_option maxHeartbeats 2000000 in
theorem lookC_spec {F : Nat} (hF : 3000 ≤ F) {P : Nat → Prop} {g : H} {lv : Value} {fl : Flight} {last : Int} {nn : Bool} {W : List Nat} {cs : List Value} {d : Nat} {D : List Nat} (s : PlS P g lv fl last nn W cs d D) (gd : Gd fl last) {wb sb rb : Nat} {kd on n at' turn : Int} {vm t : Value}
    (hwb : hget g wb = some (.cells cs 0 true [])) (hsb : hget g sb = some (.cells [.int .i64 kd, .int .i64 on, vm, .int .i64 n, .int .i64 at', .int .i64 turn] 0 true [])) (hrb : hget g rb = some (.cells [.slice none 0 0, .int .i64 0, .bool false] 0 true [])) (nrb : ¬ P rb ∧ rb ∉ W ∧ rb ∉ D) (nwr : ¬ rb = wb)
    {kn kr : K} {ke : Nat → K} {Q : Value → H → Prop}
    (hk : ∀ g' cs', PlDone P g lv fl last nn W d D rb cs' g' → Ans (kr [(8, .pointer (some ⟨rb, 0, none⟩)), (9, .bool true)] g' []) Q) :
    Ans (evC F (cf F) lookC kn ke kr [(0, lv), (5, .pointer (some ⟨wb, 0, none⟩)), (6, .pointer (some ⟨sb, 0, none⟩)), (8, .pointer (some ⟨rb, 0, none⟩)), (37, .int .i64 kd), (195, t)] g []) Q := by
  have hwbs := lt_of_get hwb
  have hsbs := lt_of_get hsb
  have hrbs := lt_of_get hrb
  obtain ⟨vq, hcs, hvq⟩ := s.rf
  have oq := hvq.one
  have sq := hvq.same
  simp only [oneCell] at oq
  have hwb' := hwb
  rw [hcs] at hwb'
  simp (disch := first | omega | (simp only [newRow_size, Array.size_setIfInBounds, Array.size_push]; done) | (simp only [newRow_size, Array.size_setIfInBounds, Array.size_push]; omega)) [lookC, r25_31, hwb', hsb, oq]
  rw [← hcs]
  refine Ans.next (refLook_spec (F := F) (by omega) s.rf gd.len n) ?_
  rintro v g1 ⟨rfl, k1⟩
  have y1 := k1.1
  generalize hM : (lookM n fl).1 = M
  generalize hE : (lookM n fl).2 = Ee
  have hMv : M.val = .agg ⟨[.int .i64 M.fr, .int .i64 M.to, .string M.b]⟩ := rfl
  rw [hMv]
  simp (disch := first | omega | (simp only [newRow_size, Array.size_setIfInBounds, Array.size_push]; done) | (simp only [newRow_size, Array.size_setIfInBounds, Array.size_push]; omega)) [eqT, eqF, neT, neF, ltT, ltF, leT, leF, nltT, nltF, nleT, nleF, nneT, nneF, List.getElem?_cons_zero, List.getElem?_cons_succ]
  generalize hmm : [Value.int .i64 M.fr, .int .i64 M.to, .string M.b] = mm
  have m1 : hget (Ev.newRow g1 mm 0 []) g1.size = some (.cells mm 0 true []) := by simp (disch := first | omega | (simp only [newRow_size, Array.size_setIfInBounds, Array.size_push]; done) | (simp only [newRow_size, Array.size_setIfInBounds, Array.size_push]; omega)) []
  have k2 := rowKept g1 mm 0 []
  have z2 : (Ev.newRow g1 mm 0 []).size = g1.size + 1 := by simp
  generalize Ev.newRow g1 mm 0 [] = g2 at m1 k2 z2 ⊢
  have k02 := k1.trans k2
  have hsb2 := (k02.get hsbs (by simp)).trans hsb
  have ls2 := s.ls.kept k02 (by simp)
  simp (disch := first | omega | (simp only [newRow_size, Array.size_setIfInBounds, Array.size_push]; done) | (simp only [newRow_size, Array.size_setIfInBounds, Array.size_push]; omega)) [r25_32, hsb2]
  refine Ans.next (ls2.look (F := F) (by omega) n) ?_
  rintro v g3 ⟨rfl, k3⟩
  have y3 := k3.1
  rw [hM, hE, hMv]
  simp (disch := first | omega | (simp only [newRow_size, Array.size_setIfInBounds, Array.size_push]; done) | (simp only [newRow_size, Array.size_setIfInBounds, Array.size_push]; omega)) [eqT, eqF, neT, neF, ltT, ltF, leT, leF, nltT, nltF, nleT, nleF, nneT, nneF, List.getElem?_cons_zero, List.getElem?_cons_succ]
  have n1 := (k3.get (by omega) (by simp)).trans m1
  have nr := (k3.get (by omega) (by simp)).trans ((k02.get hrbs (by simp)).trans hrb)
  have nw := (k3.get (by omega) (by simp)).trans ((k02.get hwbs (by simp)).trans hwb')
  generalize hmm2 : [Value.int .i64 M.fr, .int .i64 M.to, .string M.b] = mm2
  have k4 := rowKept g3 mm2 0 []
  have m2 : hget (Ev.newRow g3 mm2 0 []) g3.size = some (.cells mm2 0 true []) := by simp
  have z4 : (Ev.newRow g3 mm2 0 []).size = g3.size + 1 := by simp
  generalize Ev.newRow g3 mm2 0 [] = g4 at k4 m2 z4 ⊢
  have n1' := (k4.get (by omega) (by simp)).trans n1
  have nr' := (k4.get (by omega) (by simp)).trans nr
  have nw' := (k4.get (by omega) (by simp)).trans nw
  subst hmm hmm2
  have n1s := lt_of_get n1'
  have nrs := lt_of_get nr'
  have nws := lt_of_get nw'
  have m2s := lt_of_get m2
  have heq := ba_self M.b
  have ne2 : ¬ rb = g1.size := by omega
  have ne3 : ¬ rb = g3.size := by omega
  simp (disch := first | omega | (simp only [newRow_size, Array.size_setIfInBounds, Array.size_push]; done) | (simp only [newRow_size, Array.size_setIfInBounds, Array.size_push]; omega)) [d25_33, dk_go, chks_nil, chks_cons, chkA_nil, chkA_cons, chk1_no, chk1_yes, chkV_some, hAt_eq, hOf_some, hOf_none, sameV, sameL, n1', nr', nw', m2, numE (F := F) (by omega), oq, eqT, eqF, neT, neF, ltT, ltF, leT, leF, nltT, nltF, nleT, nleF, nneT, nneF, List.getElem?_cons_zero, List.getElem?_cons_succ, sq, nwr, ne2, ne3, sameCell_int, sameCell_bool, heq, sameCell_str]
  have rf0 : RefL (fun c => P c ∨ g.size ≤ c) g1 cs fl last nn := s.rf.imp (fun _ _ q => .inl q) (keep_of k1.c (by simp))
  rw [← hcs]
  exact hk _ _ (PlDone.mid s rf0 k1 k2 (ls2.kept k3 (by simp)) (k3.weak (by simp)) k4 hrbs nrb)

set_option maxHeartbeats 2000000 in
theorem numC_spec {F : Nat} (hF : 3000 ≤ F) {P : Nat → Prop} {g : H} {lv : Value} {fl : Flight} {last : Int} {nn : Bool} {W : List Nat} {cs : List Value} {d : Nat} {D : List Nat} (s : PlS P g lv fl last nn W cs d D) (gd : Gd fl last) (hlast : last ≤ 50000000) {wb rb : Nat} {t : Value}
    (hwb : hget g wb = some (.cells cs 0 true [])) (hrb : hget g rb = some (.cells [.slice none 0 0, .int .i64 0, .bool false] 0 true [])) (nrb : ¬ P rb ∧ rb ∉ W ∧ rb ∉ D) (nwr : ¬ rb = wb)
    {kn kr : K} {ke : Nat → K} {Q : Value → H → Prop}
    (hk : ∀ g' cs', PlDone P g lv fl last nn W d D rb cs' g' → Ans (kr [(8, .pointer (some ⟨rb, 0, none⟩)), (9, .bool true)] g' []) Q) :
    Ans (evC F (cf F) numC kn ke kr [(0, lv), (5, .pointer (some ⟨wb, 0, none⟩)), (8, .pointer (some ⟨rb, 0, none⟩)), (221, t)] g []) Q := by
  have hwbs := lt_of_get hwb
  have hrbs := lt_of_get hrb
  obtain ⟨vq, hcs, hvq⟩ := s.rf
  have oq := hvq.one
  have sq := hvq.same
  have svq := sameV_sl hvq
  simp only [oneCell] at oq
  have hwb' := hwb
  rw [hcs] at hwb'
  simp (disch := first | omega | (simp only [newRow_size, Array.size_setIfInBounds, Array.size_push]; done) | (simp only [newRow_size, Array.size_setIfInBounds, Array.size_push]; omega)) [numC, r25_35]
  refine Ans.next (s.ls.numbers (F := F) (by omega) gd.w gd.len (by omega)) ?_
  rintro u g1 ⟨su, k1⟩
  have y1 := k1.1
  have hwb1 := (k1.get hwbs (by simp)).trans hwb'
  have hrb1 := (k1.get hrbs (by simp)).trans hrb
  have rf1 : RefL P g1 [vq, .int .i64 last, .bool nn] fl last nn := by
    have := s.rf.imp (ok' := P) (fun _ _ q => q) (keep_of k1.c (by simp))
    rw [hcs] at this
    exact this
  simp (disch := first | omega | (simp only [newRow_size, Array.size_setIfInBounds, Array.size_push]; done) | (simp only [newRow_size, Array.size_setIfInBounds, Array.size_push]; omega)) [d25_36, dk_go, chks_nil, chks_cons, chkA_nil, chkA_cons, chk1_no, chk1_yes, chkV_some, hAt_eq, hOf_some, hOf_none, sameV, sameL, hwb1, oq, eqT, eqF, neT, neF, ltT, ltF, leT, leF, nltT, nltF, nleT, nleF, nneT, nneF, List.getElem?_cons_zero, List.getElem?_cons_succ, sq, sameCell_int, sameCell_bool]
  refine Ans.nextD (refNumbers_spec (F := F) (by omega) rf1 gd.len) ?_
  rintro u2 g2 ⟨su2, k2⟩
  have y2 := k2.1
  have hwb2 := (k2.get (by omega) (by simp)).trans hwb1
  have hrb2 := (k2.get (by omega) (by simp)).trans hrb1
  simp (disch := first | omega | (simp only [newRow_size, Array.size_setIfInBounds, Array.size_push]; done) | (simp only [newRow_size, Array.size_setIfInBounds, Array.size_push]; omega)) [dk_go, chks_nil, chks_cons, chkA_nil, chkA_cons, chk1_no, chk1_yes, chkV_some, hAt_eq, hOf_some, hOf_none, sameV, sameL, hwb1, hwb2, oq, eqT, eqF, neT, neF, ltT, ltF, leT, leF, nltT, nltF, nleT, nleF, nneT, nneF, List.getElem?_cons_zero, List.getElem?_cons_succ, sq, sameCell_int, sameCell_bool]
  have su' : SlR (fun c => g.size ≤ c) 1 IntC g2 u (fl.map (·.1)) := SlI.imp su (fun _ _ q => q) (keep_of k2.c (by simp))
  have hln := gd.len
  refine Ans.nextD (ints_same (F := F) (by omega) su' su2 (by simp; omega)) ?_
  rintro u3 g3 ⟨rfl, rfl⟩
  have hwb2s := lt_of_get hwb2
  have hrb2s := lt_of_get hrb2
  have hwb1s := lt_of_get hwb1
  simp (disch := first | omega | (simp only [newRow_size, Array.size_setIfInBounds, Array.size_push]; done) | (simp only [newRow_size, Array.size_setIfInBounds, Array.size_push]; omega)) [dk_go, chks_nil, chks_cons, chkA_nil, chkA_cons, chk1_no, chk1_yes, chkV_some, hAt_eq, hOf_some, hOf_none, sameV, sameL, hwb1, hwb2, hrb2, oq, eqT, eqF, neT, neF, ltT, ltF, leT, leF, nltT, nltF, nleT, nleF, nneT, nneF, List.getElem?_cons_zero, List.getElem?_cons_succ, sq, sameCell_int, sameCell_bool, nwr]
  have rf0 : RefL (fun c => P c ∨ g.size ≤ c) g1 cs fl last nn := s.rf.imp (fun _ _ q => .inl q) (keep_of k1.c (by simp))
  rw [← hcs]
  exact hk _ _ (PlDone.mid s rf0 k1 (Kept.refl _ _) (s.ls.kept k1 (by simp)) (Kept.refl _ _) k2 hrbs nrb)

end Go.Proofs.Ytmenfnapbggglaa

/- plays itself. -/
set_option linter.unusedSimpArgs false
set_option linter.unusedVariables false
namespace Go.Proofs.Ytmenfnapbggglaa
open Go.Ev

def StpC (OL : Nat → Prop) (h : H) (xcs : List Value) (x : Stp) : Prop := ∃ v, xcs = [.int .i64 x.kind, .int .i64 x.on, v, .int .i64 x.n, .int .i64 x.at', .int .i64 x.turn] ∧ SlR OL 3 MsgC h v x.msgs

def PlayP (P : Nat → Prop) (h : H) (lv : Value) (r : Flight × Int) (nn : Bool) (W : List Nat) (d : Nat) (D : List Nat) (u : Value) (h' : H) : Prop :=
  ∃ cs' W' D' P', u = .tuple ⟨[.agg ⟨cs'⟩, .bool true]⟩ ∧ PlS P' h' lv r.1 r.2 nn W' cs' d D' ∧ Kept h h' (W ++ D) ∧ (∀ c ∈ W', c ∈ W ∨ h.size ≤ c) ∧ (∀ c ∈ D', c ∈ D ∨ h.size ≤ c) ∧ (∀ c, P' c → P c ∨ h.size ≤ c)

set_option maxHeartbeats 2000000 in
theorem plays_spec {F : Nat} (hF : 3001 ≤ F) {P OL : Nat → Prop} {h : H} {lv : Value} {fl : Flight} {last : Int} {nn : Bool} {W : List Nat} {cs : List Value} {d : Nat} {D : List Nat} (s : PlS P h lv fl last nn W cs d D) (gd : Gd fl last) (hlast : last ≤ 50000000) {xcs : List Value} {x : Stp}
    (sx : StpC OL h xcs x) :
    Ans (cf F 25 [lv, .agg ⟨cs⟩, .agg ⟨xcs⟩, .pointer (some ⟨d, 0, none⟩)] h) (PlayP P h lv (stepL nn fl last x) nn W d D) := by
  generalize hQ : PlayP P h lv (stepL nn fl last x) nn W d D = Q
  obtain ⟨F, rfl⟩ : ∃ G, F = G + 1 := ⟨F - 1, by omega⟩
  have hres : a25.results = [.cellN 8 3, .tmp 9] := rfl
  rw [cf_step (a := a25) rfl rfl (by simp [a25]), a25_cut, hres]
  obtain ⟨vm, rfl, sl⟩ := sx
  have om := sl.one
  obtain ⟨vq, hcs, hvq⟩ := s.rf
  have oq := hvq.one
  simp only [oneCell] at om oq
  have hWl := s.ls.lt
  have hDl := s.dk.lt
  rw [hcs]
  simp (disch := first | omega | (simp only [newRow_size, Array.size_setIfInBounds, Array.size_push]; done) | (simp only [newRow_size, Array.size_setIfInBounds, Array.size_push]; omega)) [r25_0, om, oq]
  rw [← hcs]
  generalize hzz : [Value.slice none 0 0, .int .i64 0, .bool false] = zz
  generalize hxx : [Value.int .i64 x.kind, .int .i64 x.on, vm, .int .i64 x.n, .int .i64 x.at', .int .i64 x.turn] = xx
  have hwb : hget (Ev.newRow (Ev.newRow (Ev.newRow h cs 0 []) xx 0 []) zz 0 []) h.size = some (.cells cs 0 true []) := by simp (disch := first | omega | (simp only [newRow_size, Array.size_setIfInBounds, Array.size_push]; done) | (simp only [newRow_size, Array.size_setIfInBounds, Array.size_push]; omega)) []
  have hsb : hget (Ev.newRow (Ev.newRow (Ev.newRow h cs 0 []) xx 0 []) zz 0 []) (h.size + 1) = some (.cells xx 0 true []) := by simp (disch := first | omega | (simp only [newRow_size, Array.size_setIfInBounds, Array.size_push]; done) | (simp only [newRow_size, Array.size_setIfInBounds, Array.size_push]; omega)) []
  have hrb : hget (Ev.newRow (Ev.newRow (Ev.newRow h cs 0 []) xx 0 []) zz 0 []) (h.size + 2) = some (.cells zz 0 true []) := by simp (disch := first | omega | (simp only [newRow_size, Array.size_setIfInBounds, Array.size_push]; done) | (simp only [newRow_size, Array.size_setIfInBounds, Array.size_push]; omega)) []
  have k0 : Kept h (Ev.newRow (Ev.newRow (Ev.newRow h cs 0 []) xx 0 []) zz 0 []) [] := ((rowKept _ _ _ _).trans (rowKept _ _ _ _)).trans (rowKept _ _ _ _)
  generalize Ev.newRow (Ev.newRow (Ev.newRow h cs 0 []) xx 0 []) zz 0 [] = g at hwb hsb hrb k0 ⊢
  subst hzz hxx
  have y0 := k0.1
  have hwbs := lt_of_get hwb
  have hsbs := lt_of_get hsb
  have hrbs := lt_of_get hrb
  have sg := s.kept k0 (by simp)
  have hnew : ∀ c, h.size ≤ c → ¬ P c ∧ c ∉ W ∧ c ∉ D := fun c hc => ⟨fun q => by have := s.plt c q; omega, fun q => by have := hWl c q; omega, fun q => by have := hDl c q; omega⟩
  have sl' := SlM.imp sl (ok' := OL) (fun _ _ q => q) (keep_of k0.c (by simp))
  have fin : ∀ (fl' : Flight) (last' : Int) g' cs', stepL nn fl last x = (fl', last') → PlDone P g lv fl' last' nn W d D (h.size + 2) cs' g' → Ans (endK (cfX XD) [.cellN 8 3, .tmp 9] [(8, .pointer (some ⟨h.size + 2, 0, none⟩)), (9, .bool true)] g' []) Q := by
    rintro fl' last' g' cs' hst ⟨W', D', P', e1, e2, e3, e4, e5, e6⟩
    obtain ⟨v', hcs', hv'⟩ := e2.rf
    have o' := hv'.one
    simp only [oneCell] at o'
    have e1' := e1
    rw [hcs'] at e1'
    have e1s := lt_of_get e1'
    simp (disch := first | omega | (simp only [newRow_size, Array.size_setIfInBounds, Array.size_push]; done) | (simp only [newRow_size, Array.size_setIfInBounds, Array.size_push]; omega)) [e1', o']
    subst hQ
    rw [← hcs', hst]
    refine Ans.of ⟨cs', W', D', P', rfl, e2, ?_, ?_, ?_, ?_⟩
    · refine ⟨by have := e3.1; omega, fun c hc hn => (e3.get (by omega) ?_).trans (k0.get hc (by simp))⟩
      simp only [List.mem_cons, not_or]
      exact ⟨by omega, hn⟩
    · intro c hc
      rcases e4 c hc with r | r
      · exact .inl r
      · exact .inr (by omega)
    · intro c hc
      rcases e5 c hc with r | r
      · exact .inl r
      · exact .inr (by omega)
    · intro c hc
      rcases e6 c hc with r | r
      · exact .inl r
      · exact .inr (by omega)
  by_cases h1 : x.kind = 1
  · have hm : stepL nn fl last x = ((sendR nn fl last (cut x.msgs)).1, (sendR nn fl last (cut x.msgs)).2.1) := by unfold stepL; rw [if_pos h1]
    simp (disch := first | omega | (simp only [newRow_size, Array.size_setIfInBounds, Array.size_push]; done) | (simp only [newRow_size, Array.size_setIfInBounds, Array.size_push]; omega)) [r25_1, hsb, r25_2, h1, eqT, eqF, neT, neF, ltT, ltF, leT, leF, nltT, nltF, nleT, nleF, nneT, nneF, List.getElem?_cons_zero, List.getElem?_cons_succ]
    exact sendC_spec (F := F) (by omega) sg gd hlast hwb (by rw [← h1]; exact hsb) hrb (hnew _ (by omega)) sl' (fun g' cs' p => fin _ _ g' cs' hm p)
  by_cases h2 : x.kind = 2
  · have hm : stepL nn fl last x = (takeR x.n fl, last) := by unfold stepL; rw [if_neg h1, if_pos h2]
    simp (disch := first | omega | (simp only [newRow_size, Array.size_setIfInBounds, Array.size_push]; done) | (simp only [newRow_size, Array.size_setIfInBounds, Array.size_push]; omega)) [r25_1, hsb, r25_2, h2, eqT, eqF, neT, neF, ltT, ltF, leT, leF, nltT, nltF, nleT, nleF, nneT, nneF, List.getElem?_cons_zero, List.getElem?_cons_succ, r25_18]
    exact takeC_spec (F := F) (by omega) sg gd hwb (by rw [← h2]; exact hsb) hrb (hnew _ (by omega)) (fun g' cs' p => fin _ _ g' cs' hm p)
  by_cases h3 : x.kind = 3
  · have hm : stepL nn fl last x = ((doubleR nn x.n fl last).1, (doubleR nn x.n fl last).2.1) := by unfold stepL; rw [if_neg h1, if_neg h2, if_pos h3]
    simp (disch := first | omega | (simp only [newRow_size, Array.size_setIfInBounds, Array.size_push]; done) | (simp only [newRow_size, Array.size_setIfInBounds, Array.size_push]; omega)) [r25_1, hsb, r25_2, h3, eqT, eqF, neT, neF, ltT, ltF, leT, leF, nltT, nltF, nleT, nleF, nneT, nneF, List.getElem?_cons_zero, List.getElem?_cons_succ, r25_18, r25_22]
    exact dblC_spec (F := F) (by omega) sg gd hlast hwb (by rw [← h3]; exact hsb) hrb (hnew _ (by omega)) (fun g' cs' p => fin _ _ g' cs' hm p)
  by_cases h4 : x.kind = 4
  · have hm : stepL nn fl last x = ((spoilR x.n x.at' x.turn fl).1, last) := by unfold stepL; rw [if_neg h1, if_neg h2, if_neg h3, if_pos h4]
    simp (disch := first | omega | (simp only [newRow_size, Array.size_setIfInBounds, Array.size_push]; done) | (simp only [newRow_size, Array.size_setIfInBounds, Array.size_push]; omega)) [r25_1, hsb, r25_2, h4, eqT, eqF, neT, neF, ltT, ltF, leT, leF, nltT, nltF, nleT, nleF, nneT, nneF, List.getElem?_cons_zero, List.getElem?_cons_succ, r25_18, r25_22, r25_26]
    exact splC_spec (F := F) (by omega) sg gd hwb (by rw [← h4]; exact hsb) hrb (hnew _ (by omega)) (fun g' cs' p => fin _ _ g' cs' hm p)
  have hm : stepL nn fl last x = (fl, last) := by unfold stepL; rw [if_neg h1, if_neg h2, if_neg h3, if_neg h4]
  by_cases h5 : x.kind = 5
  · simp (disch := first | omega | (simp only [newRow_size, Array.size_setIfInBounds, Array.size_push]; done) | (simp only [newRow_size, Array.size_setIfInBounds, Array.size_push]; omega)) [r25_1, hsb, r25_2, h5, eqT, eqF, neT, neF, ltT, ltF, leT, leF, nltT, nltF, nleT, nleF, nneT, nneF, List.getElem?_cons_zero, List.getElem?_cons_succ, r25_18, r25_22, r25_26, r25_30]
    exact lookC_spec (F := F) (by omega) sg gd hwb (by rw [← h5]; exact hsb) hrb (hnew _ (by omega)) (by omega) (fun g' cs' p => fin _ _ g' cs' hm p)
  by_cases h6 : x.kind = 6
  · simp (disch := first | omega | (simp only [newRow_size, Array.size_setIfInBounds, Array.size_push]; done) | (simp only [newRow_size, Array.size_setIfInBounds, Array.size_push]; omega)) [r25_1, hsb, r25_2, h6, eqT, eqF, neT, neF, ltT, ltF, leT, leF, nltT, nltF, nleT, nleF, nneT, nneF, List.getElem?_cons_zero, List.getElem?_cons_succ, r25_18, r25_22, r25_26, r25_30, r25_34]
    exact numC_spec (F := F) (by omega) sg gd hlast hwb hrb (hnew _ (by omega)) (by omega) (fun g' cs' p => fin _ _ g' cs' hm p)
  · have hwb' := hwb
    rw [hcs] at hwb'
    simp (disch := first | omega | (simp only [newRow_size, Array.size_setIfInBounds, Array.size_push]; done) | (simp only [newRow_size, Array.size_setIfInBounds, Array.size_push]; omega)) [r25_1, hsb, r25_2, h1, h2, h3, h4, h5, h6, eqT, eqF, neT, neF, ltT, ltF, leT, leF, nltT, nltF, nleT, nleF, nneT, nneF, List.getElem?_cons_zero, List.getElem?_cons_succ, r25_18, r25_22, r25_26, r25_30, r25_34, r25_37, hwb', hrb, oq]
    have this := fin fl last _ cs hm (PlDone.of (W5 := W) (D5 := D) sg (Kept.refl _ _) (fun c hc => .inl hc) (fun c hc => .inl hc) (fun c hc => .inl hc) hrbs (hnew _ (by omega)))
    rw [hcs] at this
    simp (disch := first | omega | (simp only [newRow_size, Array.size_setIfInBounds, Array.size_push]; done) | (simp only [newRow_size, Array.size_setIfInBounds, Array.size_push]; omega)) [hrbs, oq] at this
    exact this

end Go.Proofs.Ytmenfnapbggglaa
