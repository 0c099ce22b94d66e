/- Send of the program's line. -/
import Derived.Test.YtmenfnapbggglaaLb5
set_option linter.unusedSimpArgs false
set_option linter.unusedVariables false
namespace Go.Proofs.Ytmenfnapbggglaa
open Go.Ev

def sendM : Flight → Int → List Msg → Flight × Int × List Int
  | fl, last, [] => (fl, last, [])
  | fl, last, m :: r => if 256 ≤ fl.length then ((sendM fl last r).1, (sendM fl last r).2.1, -1 :: (sendM fl last r).2.2)
    else ((sendM (fl ++ [(last + 1, (m, false))]) (last + 1) r).1, (sendM (fl ++ [(last + 1, (m, false))]) (last + 1) r).2.1, (last + 1) :: (sendM (fl ++ [(last + 1, (m, false))]) (last + 1) r).2.2)

theorem sendM_fl : ∀ (l : List Msg) {fl : Flight} {last : Int}, Fl fl last → Fl (sendM fl last l).1 (sendM fl last l).2.1 ∧ (sendM fl last l).2.1 ≤ last + l.length ∧ (sendM fl last l).2.2.length = l.length
  | [], _, _, w => ⟨w, by simp [sendM], rfl⟩
  | m :: r, fl, last, w => by
    unfold sendM
    split
    · obtain ⟨h1, h2, h3⟩ := sendM_fl r w
      exact ⟨h1, by simp; omega, by simp [h3]⟩
    · obtain ⟨h1, h2, h3⟩ := sendM_fl r (w.put (m, false))
      exact ⟨h1, by simp; omega, by simp [h3]⟩

def ints (l : List Int) : List Value := l.map (.int .i64)

theorem MsgsAt.far {h h' : H} {S : Nat → Prop} {v : Value} {l : List Msg} (m : MsgsAt h v l) (k : Keeps h h' S) (hs : ∀ b o n c, v = .slice (some ⟨b, o, none⟩) n c → ¬ S b) : MsgsAt h' v l := by
  rcases m with m | ⟨b, o, c, cs, es, lv, an, h1, h2, h3, h4⟩
  · exact .inl m
  · exact .inr ⟨b, o, c, cs, es, lv, an, h1, k.get h2 (hs _ _ _ _ h1), h3, h4⟩

theorem drop_cons {α : Type} {l : List α} {i : Nat} {r : α} {rest : List α} (h : l.drop i = r :: rest) : l.drop (i + 1) = rest ∧ l.take (i + 1) = l.take i ++ [r] := by
  have h0 : l[i]? = some r := by
    have := congrArg (fun q => q[0]?) h
    simpa using this
  constructor
  · have := congrArg List.tail h
    simpa using this
  · rw [List.take_add_one, h0]; rfl

/-- Where the line's map is now, if it was there or not. -/
def Later (B : Nat) (m m' : Option Nat) : Prop := m' = m ∨ (m = none ∧ ∃ x, m' = some x ∧ B ≤ x)

theorem send_loop (F : Nat) {c : CF} (hc : c = cf (F + 1)) {F0 : Nat} {v : Value} {l : List Msg} {h0 : H} {b : Nat} {m0 : Option Nat} (mv : MsgsAt h0 v l) (hb0 : b < h0.size)
    (hfar : ∀ x o n c, v = .slice (some ⟨x, o, none⟩) n c → ¬ (x = b ∨ m0 = some x)) {ke : Nat → K} {kr : K} {Q : Value → H → Prop} {fe : Flight} {le : Int} {ne : List Int}
    (hk : ∀ acc h i m, OwnRow h acc 1 ne.length (ints ne) h0.size → Keeps h0 h (fun x => x = b ∨ m0 = some x) → LineAt h b m fe le → Later h0.size m0 m →
      Ans (ke 0 [(0, .pointer (some ⟨b, 0, none⟩)), (5, acc), (8, v), (9, .int .i64 l.length), (10, i), (11, .bool false)] h []) Q) :
    ∀ (n i : Nat) (acc : Value) (ns : List Int) (h : H) (m : Option Nat) (fl : Flight) (last : Int), i ≤ l.length → l.length < n + i → ns.length = i → l.length ≤ 100000 → last + (l.length - i : Nat) ≤ 1000000000 →
      sendM fl last (l.drop i) = (fe, le, ne.drop i) → ne.take i = ns → Fl fl last →
      OwnRow h acc 1 i (ints ns) h0.size → Keeps h0 h (fun x => x = b ∨ m0 = some x) → LineAt h b m fl last → Later h0.size m0 m →
      Ans (loopK F0 c [0, 5, 8, 9, 10] l16_7 ke kr n [(0, .pointer (some ⟨b, 0, none⟩)), (5, acc), (8, v), (9, .int .i64 l.length), (10, .int .i64 i)] h []) Q := by
  intro n
  induction n with
  | zero => intro i acc ns h m fl last hi hn; omega
  | succ n ih =>
    intro i acc ns h m fl last hi hn hns hmax hlast hsend htk hfl o k la lat
    rw [loopK_succ]
    generalize loopK F0 c [0, 5, 8, 9, 10] l16_7 ke kr n = again at ih ⊢
    by_cases hil : i < l.length
    · have mv1 := mv.far k hfar
      obtain ⟨vb, vo, cp, cs, es, lv, an, rfl, hb, hcs, hr⟩ := mv1.read hil
      have hbs := lt_of_get hb
      have hks := k.1
      simp [l16_7, r16_3, hil, r16_4, r16_5, hb, hcs, hr]
      have la1 := la.keeps0 (((Keeps.refl h _).row [.int .i64 0, .int .i64 0, .string { data := #[] }] 0 []).set_new (Nat.le_refl _) (.cells [.int .i64 (l[i]).fr, .int .i64 (l[i]).to, .string (l[i]).b] 0 true []))
      have hput := put_spec F la1 hfl (by omega) (l[i], false)
      rw [← hc] at hput
      refine Ans.next hput ?_
      intro w h2 hq
      have hdrop : l.drop i = l[i] :: l.drop (i + 1) := List.drop_eq_getElem_cons hil
      rw [hdrop] at hsend
      have hbB : ∀ x, h0.size ≤ x → ¬ x = b := fun x hx e => by omega
      have step : ∀ (r : Int) (h2 : H) (m2 : Option Nat) (fl2 : Flight) (last2 : Int), ne.drop i = r :: ne.drop (i + 1) → ne.take (i + 1) = ns ++ [r] → sendM fl2 last2 (l.drop (i + 1)) = (fe, le, ne.drop (i + 1)) → last2 + (l.length - (i + 1) : Nat) ≤ 1000000000 → Fl fl2 last2 →
          OwnRow h2 acc 1 i (ints ns) h0.size → Keeps h0 h2 (fun x => x = b ∨ m0 = some x) → LineAt h2 b m2 fl2 last2 → Later h0.size m0 m2 →
          Ans (evR c [⟨some 19, none, .op (.mkSlice 1 1 [.int .i64 0] [(0, 1, .tmp 18)])⟩, ⟨some 20, none, .op (.append false 1 8 (.tmp 14) (.tmp 19))⟩, ⟨some 5, none, .op (.mv (.tmp 20))⟩]
            (setD [(17, pval (l[i], false)), (16, (l[i]).val), (15, .pointer (some ⟨b, 0, none⟩)), (14, acc), (0, .pointer (some ⟨b, 0, none⟩)), (5, acc), (7, .pointer (some ⟨h.size, 0, none⟩)), (8, .slice (some ⟨vb, vo, none⟩) l.length cp), (9, .int .i64 l.length), (10, .int .i64 i)] (some 18) (.int .i64 r)) h2
            (evC F0 c (.region r16_6 [0, 5, 8, 9, 10]) (keepK [0, 5, 8, 9, 10] again) ke kr) [0, 5, 8, 9, 10] []) Q := by
        intro r h2 m2 fl2 last2 e1 e2 e3 e4 hfl2 o2 k2 la2 lat2
        have hk2s := k2.1
        have la3 := la2.keeps0 ((Keeps.refl h2 _).row [.int .i64 r] 1 [])
        have o3 : OwnRow (Ev.newRow h2 [.int .i64 r] 1 []) acc 1 i (ints ns) h0.size := o2.keeps ((Keeps.refl h2 (fun _ => False)).row _ _ _) (by simp)
        obtain ⟨h4, e5, s4, o4, k4⟩ := append1 (bytes := 8) (by simp; omega) o3 [.int .i64 r] rfl (by omega)
        have hw : IntKind.i64.wrap ((i : Int) + 1) = ((i + 1 : Nat) : Int) := by rw [wrap_in (by omega) (by omega)]; omega
        simp at e5
        simp [srcOf, e5, r16_6, hw]
        refine ih (i + 1) _ (ns ++ [r]) h4 m2 fl2 last2 hil (by omega) (by simp [hns]) hmax e4 e3 e2 hfl2 ?_ ?_ (la3.keeps k4 ?_ ?_) lat2
        · simpa [ints] using o4
        · exact k2.past (((Keeps.refl h2 _).row _ _ _).trans (k4.weak fun _ q => .inr q.1))
        · rintro ⟨q, _⟩; omega
        · rintro x hx ⟨q1, n', q2⟩
          obtain ⟨an', q3⟩ := o3.at q2
          rw [(la3.yes x hx).2] at q3
          cases q3
      have hcellsNot : ∀ (hA : H) (flA : Flight) (lastA : Int), LineAt hA b m flA lastA → ∀ x cs' es' an', h0.size ≤ x → hget hA x = some (.cells cs' es' true an') → ¬ (x = b ∨ m = some x) := by
        rintro hA flA lastA lA x cs' es' an' hx hg (rfl | hm)
        · omega
        · rw [(lA.yes x hm).2] at hg; cases hg
      by_cases hfull : 256 ≤ fl.length
      · rw [if_pos hfull] at hq
        obtain ⟨rfl, k2⟩ := hq
        unfold sendM at hsend
        rw [if_pos hfull] at hsend
        have hne : ne.drop i = -1 :: (sendM fl last (l.drop (i + 1))).2.2 := by injection hsend with _ q; injection q with _ q; exact q.symm
        obtain ⟨d1, d2⟩ := drop_cons hne
        rw [htk] at d2
        refine step (-1) h2 m fl last (by rw [d1]; exact hne) d2 ?_ (by omega) hfl ?_ ?_ ?_ lat
        · rw [d1]
          injection hsend with q1 q; injection q with q2 q3
          rw [← q1, ← q2]
        · exact o.keeps (((Keeps.refl h (fun _ => False)).row _ _ _).set_new (Nat.le_refl _) _ |>.trans k2) (by simp)
        · exact k.trans ((((Keeps.refl h (fun _ => False)).row _ _ _).set_new (Nat.le_refl _) _ |>.trans k2).weak (fun _ q => q.elim))
        · exact la1.keeps0 k2
      · rw [if_neg hfull] at hq
        obtain ⟨rfl, k2, m', la2, hm'⟩ := hq
        unfold sendM at hsend
        rw [if_neg hfull] at hsend
        have hne : ne.drop i = (last + 1) :: (sendM (fl ++ [(last + 1, (l[i], false))]) (last + 1) (l.drop (i + 1))).2.2 := by injection hsend with _ q; injection q with _ q; exact q.symm
        obtain ⟨d1, d2⟩ := drop_cons hne
        rw [htk] at d2
        have hA : Keeps h (Array.setIfInBounds (Ev.newRow h [.int .i64 0, .int .i64 0, .string { data := #[] }] 0 []) h.size (.cells [.int .i64 (l[i]).fr, .int .i64 (l[i]).to, .string (l[i]).b] 0 true [])) fun _ => False := ((Keeps.refl h _).row _ _ _).set_new (Nat.le_refl _) _
        refine step (last + 1) h2 (some m') _ _ (by rw [d1]; exact hne) d2 ?_ (by omega) (hfl.put _) ?_ ?_ la2 ?_
        · rw [d1]
          injection hsend with q1 q; injection q with q2 q3
          rw [← q1, ← q2]
        · have oA := o.keeps hA (by simp)
          exact oA.keeps' k2 fun x an hx hg => hcellsNot _ _ _ la1 x _ _ _ hx hg
        · refine k.past ((hA.weak (fun _ q => q.elim)).trans (k2.weak fun x q => ?_))
          rcases q with q | q
          · exact .inl (.inl q)
          · rcases lat with rfl | ⟨_, y, e, hy⟩
            · exact .inl (.inr q)
            · rw [e] at q; cases q; exact .inr hy
        · rcases hm' with e | ⟨e, e'⟩
          · rcases lat with rfl | ⟨q1, y, q2, hy⟩
            · exact .inl e.symm
            · rw [q2] at e; cases e; exact .inr ⟨q1, _, rfl, hy⟩
          · simp at e'
            rcases lat with rfl | ⟨q1, y, q2, hy⟩
            · exact .inr ⟨e, m', rfl, by omega⟩
            · rw [q2] at e; cases e
    · have hie : i = l.length := by omega
      subst hie
      simp [l16_7, r16_3]
      rw [List.drop_of_length_le (Nat.le_refl _)] at hsend
      unfold sendM at hsend
      injection hsend with q1 q; injection q with q2 q3
      subst q1 q2
      have hn : ne = ns := by
        rw [← htk]
        have := List.take_append_drop l.length ne
        rw [← q3, List.append_nil] at this
        exact this.symm
      subst hn
      rw [hns] at hk
      exact hk acc h (.int .i64 l.length) m o k la lat

theorem send_spec (F : Nat) {v : Value} {l : List Msg} {h : H} {b : Nat} {m : Option Nat} {fl : Flight} {last : Int} (hF : l.length ≤ F) (hl : l.length ≤ 100000) (mv : MsgsAt h v l) (la : LineAt h b m fl last) (w : Fl fl last) (hlast : last + l.length ≤ 1000000000)
    (hfar : ∀ x o n c, v = .slice (some ⟨x, o, none⟩) n c → ¬ (x = b ∨ m = some x)) :
    Ans (cf (F + 2) 16 [.pointer (some ⟨b, 0, none⟩), v] h) fun r h' => OwnRow h' r 1 l.length (ints (sendM fl last l).2.2) h.size ∧ (Keeps h h' fun x => x = b ∨ m = some x) ∧
      ∃ m', LineAt h' b m' (sendM fl last l).1 (sendM fl last l).2.1 ∧ Later h.size m m' := by
  have hbs := lt_of_get la.line
  obtain ⟨_, _, hnl⟩ := sendM_fl l w
  rw [cf_step (a := a16) rfl (by simp [a16])]
  have hlen : ∃ vb vn, v = .slice vb l.length vn ∧ (vb = none → l.length = 0 ∧ vn = 0) := by
    rcases mv with ⟨rfl, rfl⟩ | ⟨b, o, c, cs, es, lv, an, h1, h2, h3, h4⟩
    · exact ⟨none, 0, rfl, fun _ => ⟨rfl, rfl⟩⟩
    · exact ⟨_, _, h1, nofun⟩
  have main := send_loop F rfl (F0 := F + 1) mv hbs hfar (ke := putK 0 (evC (F + 1) (cf (F + 1)) (.seq (.region r16_8 [4]) .ret) (endK (cfX fun _ => none) [.tmp 4]) noK (endK (cfX fun _ => none) [.tmp 4])) noK)
    (kr := endK (cfX fun _ => none) [.tmp 4])
    (Q := fun r h' => OwnRow h' r 1 l.length (ints (sendM fl last l).2.2) h.size ∧ (Keeps h h' fun x => x = b ∨ m = some x) ∧ ∃ m', LineAt h' b m' (sendM fl last l).1 (sendM fl last l).2.1 ∧ Later h.size m m')
    (fe := (sendM fl last l).1) (le := (sendM fl last l).2.1) (ne := (sendM fl last l).2.2)
    (by
      intro acc h' i m' o k la' lat
      simp [r16_8]
      rw [hnl] at o
      exact Ans.of ⟨o, k, m', la', lat⟩)
    (F + 1) 0 (.slice none 0 0) [] h m fl last (by omega) (by omega) rfl hl (by simpa using hlast) rfl rfl w (.inl ⟨rfl, rfl, rfl⟩) (Keeps.refl _ _) la (.inl rfl)
  obtain ⟨vb, vn, rfl, hv⟩ := hlen
  cases vb with
  | none =>
    obtain ⟨h1, rfl⟩ := hv rfl
    simp [h1] at main
    simp [a16, r16_0, r16_1, r16_2, h1]
    exact main
  | some a =>
    simp [a16, r16_0, r16_1, r16_2]
    exact main

end Go.Proofs.Ytmenfnapbggglaa
