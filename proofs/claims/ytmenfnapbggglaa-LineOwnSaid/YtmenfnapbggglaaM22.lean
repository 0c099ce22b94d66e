/- Several texts in one: Lf0, Lf1, Lf2, Lf3, Lf4, Lf5, Lf6, Lf7. -/
import Derived.Test.YtmenfnapbggglaaM21

/- LineOwn: lists that are the caller's own; Send, with where its answer lies. -/
set_option linter.unusedSimpArgs false
set_option linter.unusedVariables false
namespace Go.Proofs.Ytmenfnapbggglaa
open Go.Ev

/-- A list of numbers that nobody else holds: all of it lies at lo or behind, in rows no younger than its own. -/
def OwnI (h : H) (v : Value) (ns : List Int) (lo : Nat) : Prop := (ns = [] ∧ v = .slice none 0 0) ∨ ∃ b an, ns ≠ [] ∧ v = .slice (some ⟨b, 0, none⟩) ns.length ns.length ∧ hget h b = some (.cells (ints ns) 1 true an) ∧ lo ≤ b ∧ ∀ a ∈ an, lo ≤ a ∧ a < b

theorem OwnI.keep {h h' : H} {v : Value} {ns : List Int} {lo : Nat} (s : OwnI h v ns lo) (k : ∀ c, lo ≤ c → c < h.size → hget h' c = hget h c) : OwnI h' v ns lo := by
  rcases s with s | ⟨b, an, hne, e, hg, hl, ha⟩
  · exact .inl s
  · exact .inr ⟨b, an, hne, e, (k b hl (lt_of_get hg)).trans hg, hl, ha⟩

theorem ints_snoc (ns : List Int) (r : Int) : ints ns ++ [.int .i64 r] = ints (ns ++ [r]) := by simp [ints]

theorem OwnI.app {h : H} {v : Value} {ns : List Int} {lo : Nat} (s : OwnI h v ns lo) (hlo : lo ≤ h.size) (hn : ns.length ≤ 100000) (r : Int) :
    Ans (appendTo h 1 8 v 1 [.int .i64 r]) fun v' h' => OwnI h' v' (ns ++ [r]) lo ∧ h'.size = h.size + 1 ∧ ∀ c, c < lo → hget h' c = hget h c := by
  rcases s with ⟨rfl, rfl⟩ | ⟨b, an, hne, rfl, hg, hl, ha⟩
  · refine ⟨.slice (some ⟨h.size, 0, none⟩) 1 1, Ev.newRow h [.int .i64 r] 1 [], by simp [appendTo], .inr ⟨h.size, [], by simp, rfl, by simp [ints], hlo, by simp⟩, by simp, fun c hc => by rw [newRow_old (by omega)]⟩
  · have hbs := lt_of_get hg
    have hg' : h[b]? = some (.cells (ints ns) 1 true an) := hg
    have hnl : ¬ ns.length + 1 ≤ ns.length := by omega
    have hb : (ns.length + 1) * 8 ≤ 2 ^ 47 := by omega
    have hil : (ints ns).length = ns.length := by simp [ints]
    refine ⟨.slice (some ⟨h.size, 0, none⟩) (ns.length + 1) (ns.length + 1), Ev.newRow (h.setIfInBounds b (.cells (ints ns) 1 false an)) (ints (ns ++ [r])) 1 (b :: an), ?_, .inr ⟨h.size, b :: an, by simp, by simp, by simp, hlo, ?_⟩, by simp, fun c hc => ?_⟩
    · simp only [appendTo, if_neg (Nat.succ_ne_zero 0), if_neg hnl, if_pos hb, hg', Nat.zero_add, Nat.mul_one, hil, Nat.le_refl, and_self, if_true, List.drop_zero]
      rw [List.take_of_length_le (by omega), ints_snoc]
    · intro a hx
      rcases List.mem_cons.1 hx with rfl | hx
      · exact ⟨hl, hbs⟩
      · exact ⟨(ha a hx).1, by have := (ha a hx).2; omega⟩
    · rw [newRow_old (by simp; omega), set_other (by omega)]

theorem OwnI.sl {h : H} {v : Value} {ns : List Int} {lo : Nat} (s : OwnI h v ns lo) : SlR (fun c => lo ≤ c ∧ c < h.size) 1 IntC h v ns := by
  rcases s with ⟨e, e'⟩ | ⟨b, an, hne, e, hg, hl, ha⟩
  · exact .inl ⟨.inl e', e⟩
  · refine .inr ⟨b, 0, ns.length, ints ns, e, Nat.le_refl _, ⟨hl, lt_of_get hg⟩, cel_of hg, fun i x hx => ?_⟩
    have hil := (List.getElem?_eq_some_iff.1 hx).1
    refine ⟨by simp [ints]; omega, ?_⟩
    show ((ints ns).drop (0 + i * 1)).take 1 = [.int .i64 x]
    rw [Nat.zero_add, Nat.mul_one, List.take_one, List.head?_drop]
    simp [ints, hx]

/-- What Send leaves: where its answer lies, and that the line does not. -/
def SendO (h : H) (lv : Value) (r : Flight × Int × List Int) (W : List Nat) (u : Value) (h' : H) : Prop :=
  ∃ W' lo, LS h' lv r.1 r.2.1 false W' ∧ Moves h h' W W' ∧ h.size ≤ lo ∧ lo ≤ h'.size ∧ OwnI h' u r.2.2 lo ∧ ∀ c ∈ W', c < lo

set_option maxHeartbeats 2000000 in
theorem LS.sendO {F : Nat} (hF : 1000 ≤ F) {h : H} {lv : Value} {fl : Flight} {last : Int} {W : List Nat} (s : LS h lv fl last false W) (gd : Gd fl last) {v : Value} {l : List Msg} (hl : l.length ≤ 300) (mv : MsgsAt h v l) (hlast : last ≤ 100000)
    (hsl : ∀ m ∈ l, slen m.b ≤ 600) (hfar : ∀ x o n c, v = .slice (some ⟨x, o, none⟩) n c → x ∉ W) :
    Ans (cf F 16 [lv, v] h) (SendO h lv (sendR false fl last l) W) := by
  generalize hQ : SendO h lv (sendR false fl last l) W = Q
  rcases s with ⟨_, e, _⟩ | ⟨b, m, rfl, _, s, rfl⟩
  · cases e
  obtain ⟨F, rfl⟩ : ∃ G, F = G + 1 := ⟨F - 1, by omega⟩
  have hln := mv.lenV
  have hbs := lt_of_get s.line
  have hms : ∀ y, m = some y → y < h.size := fun y hy => lt_of_get (s.yes y hy).2
  have hvb : ∀ x o n c, v = .slice (some ⟨x, o, none⟩) n c → x ≠ b ∧ m ≠ some x := fun x o n c e => ⟨fun q => hfar x o n c e (by simp [q]), fun q => hfar x o n c e (by simp [q])⟩
  rw [cf_step (a := a16) rfl rfl (by simp [a16])]
  simp (disch := first | omega | (simp only [newRow_size, Array.size_setIfInBounds, Array.size_push]; done) | (simp only [newRow_size, Array.size_setIfInBounds, Array.size_push]; omega)) [a16, r16_0, r16_1, r16_2, hln]
  refine loop_rule (fun mm e g' => ∃ (i : Nat) (u : Value) (mi : Option Nat) (lo : Nat), mm = l.length - i ∧ i ≤ l.length ∧ e = [(0, .pointer (some ⟨b, 0, none⟩)), (5, u), (8, v), (9, .int .i64 l.length), (10, .int .i64 i)] ∧ (∀ c, c < h.size → c ≠ b → m ≠ some c → hget g' c = hget h c) ∧ h.size ≤ lo ∧ lo ≤ g'.size ∧
    LineAt g' b mi (sendR false fl last (l.take i)).1 (sendR false fl last (l.take i)).2.1 ∧ OwnI g' u (sendR false fl last (l.take i)).2.2 lo ∧ (∀ y, mi = some y → y < lo) ∧ (mi = none → i = 0) ∧ (mi = m ∨ (m = none ∧ ∃ y, mi = some y ∧ h.size ≤ y))) ?_ _ l.length _ _ (by omega) ⟨0, .slice none 0 0, m, h.size, by omega, by omega, rfl, fun _ _ _ _ => rfl, Nat.le_refl _, Nat.le_refl _, s, .inl ⟨rfl, rfl⟩, hms, fun _ => rfl, .inl rfl⟩
  rintro mm e g again ⟨i, u, mi, lo, rfl, hi, rfl, kg, hlo, hlog, la, ow, hml, hm0, lat⟩ ih
  have hw : IntKind.i64.wrap ((i : Int) + 1) = ((i + 1 : Nat) : Int) := by rw [wrap_id (by omega) (by omega)]; rfl
  have zg : h.size ≤ g.size := by omega
  by_cases hlt : i < l.length
  · have mg : MsgsAt g v l := by
      rcases mv with mv | ⟨b', o, c, cs, es, lv, an, h1, h2, h3, h4⟩
      · exact .inl mv
      · exact .inr ⟨b', o, c, cs, es, lv, an, h1, (kg b' (lt_of_get h2) (hvb _ _ _ _ h1).1 (hvb _ _ _ _ h1).2).trans h2, h3, h4⟩
    obtain ⟨b', o, c, cs, es, lv, an, rfl, hg, hle, hr⟩ := mg.read hlt
    have hgs := lt_of_get hg
    have hlt' : (i : Int) < (l.length : Int) := by omega
    have hgi : l[i]? = some l[i] := List.getElem?_eq_getElem hlt
    generalize l[i] = mi1 at hr hgi
    have hmem : ∀ x ∈ l.take i, slen x.b ≤ 600 := fun x hx => hsl x (List.mem_of_mem_take hx)
    have gdi := gd.send false (l.take i) hmem
    have hlr := sendR_last false (l.take i) fl last
    have hsn := sendR_snoc false mi1 (l.take i) fl last
    rw [← take_snoc hgi] at hsn
    have hnsl := sendR_ns false (l.take i) fl last
    have htl : (l.take i).length ≤ i := by rw [List.length_take]; omega
    generalize hR : sendR false fl last (l.take i) = R at la ow gdi hlr hsn hnsl
    simp (disch := first | omega | (simp only [newRow_size, Array.size_setIfInBounds, Array.size_push]; done) | (simp only [newRow_size, Array.size_setIfInBounds, Array.size_push]; omega)) [l16_7, r16_3, hlt', eqT, eqF, neT, neF, ltT, ltF, leT, leF, nltT, nltF, nleT, nleF, nneT, nneF, List.getElem?_cons_zero, List.getElem?_cons_succ, r16_4, hg, hr, r16_5]
    have kA := rowKept g [.int .i64 mi1.fr, .int .i64 mi1.to, .string mi1.b] 0 []
    have la1 : LineAt (Ev.newRow g [.int .i64 mi1.fr, .int .i64 mi1.to, .string mi1.b] 0 []) b mi R.1 R.2.1 := la.keeps0 (kA.keeps (by simp))
    have zA : (Ev.newRow g [.int .i64 mi1.fr, .int .i64 mi1.to, .string mi1.b] 0 []).size = g.size + 1 := by simp
    generalize Ev.newRow g [.int .i64 mi1.fr, .int .i64 mi1.to, .string mi1.b] 0 [] = gA at kA la1 zA ⊢
    have hps : ∃ F', F = F' + 1 := ⟨F - 1, by omega⟩
    obtain ⟨F', hF'⟩ := hps
    have hput := put_spec F' la1 gdi.w (by omega) (mi1, false)
    rw [← hF'] at hput
    refine Ans.next hput ?_
    intro w h2 hq
    have y2 : gA.size ≤ h2.size := by
      split at hq
      · exact hq.2.1
      · exact hq.2.1.1
    have hq2 : ∃ mi2 lo2, w = .int .i64 (putR false R.1 R.2.1 (mi1, false)).2.2 ∧ LineAt h2 b mi2 (putR false R.1 R.2.1 (mi1, false)).1 (putR false R.1 R.2.1 (mi1, false)).2.1 ∧ (∀ c, c < h.size → c ≠ b → m ≠ some c → hget h2 c = hget h c) ∧ h.size ≤ lo2 ∧ lo2 ≤ h2.size ∧ OwnI h2 u R.2.2 lo2 ∧ (∀ y, mi2 = some y → y < lo2) ∧ mi2 ≠ none ∧ (mi2 = m ∨ (m = none ∧ ∃ y, mi2 = some y ∧ h.size ≤ y)) := by
      have hmic : ∀ c, c < h.size → m ≠ some c → mi ≠ some c := by
        intro c hc hm e
        rcases lat with rfl | ⟨_, y, e2, hy⟩
        · exact hm e
        · rw [e2] at e; cases e; omega
      by_cases hf : 256 ≤ R.1.length
      · have hp : putR false R.1 R.2.1 (mi1, false) = (R.1, R.2.1, -1) := by unfold putR; rw [if_pos (Or.inr hf)]
        rw [if_pos hf] at hq
        obtain ⟨rfl, k2⟩ := hq
        rw [hp]
        have hne : mi ≠ none := fun e => by
          have := la.no e
          rw [this] at hf
          simp at hf
        exact ⟨mi, lo, rfl, la1.keeps0 k2, fun c hc h1 h2 => (k2.2 c (by omega) (by simp)).trans ((kA.get (by omega) (by simp)).trans (kg c hc h1 h2)), hlo, by omega, (ow.keep (fun c _ hc => kA.get hc (by simp))).keep (fun c _ hc => k2.2 c hc (by simp)), hml, hne, lat⟩
      · have hp : putR false R.1 R.2.1 (mi1, false) = (R.1 ++ [(R.2.1 + 1, (mi1, false))], R.2.1 + 1, R.2.1 + 1) := by unfold putR; rw [if_neg (by simp; omega)]
        rw [if_neg hf] at hq
        obtain ⟨rfl, k2, m', l', hm'⟩ := hq
        rw [hp]
        have fr : ∀ c, c < h.size → c ≠ b → m ≠ some c → hget h2 c = hget h c := fun c hc h1 h2 => (k2.2 c (by omega) (by
          rintro (q | q)
          · exact h1 q
          · exact hmic c hc h2 q)).trans ((kA.get (by omega) (by simp)).trans (kg c hc h1 h2))
        rcases hm' with e | ⟨e, hx⟩
        · refine ⟨some m', lo, rfl, l', fr, hlo, by omega, (ow.keep (fun c _ hc => kA.get hc (by simp))).keep (fun c hc hcs => k2.2 c hcs ?_), fun y hy => by cases hy; exact hml m' e, by simp, ?_⟩
          · rintro (q | q)
            · omega
            · have := hml c q; omega
          · rw [← e]; exact lat
        · have hi0 := hm0 e
          have hnil : R.2.2 = [] := List.eq_nil_of_length_eq_zero (by rw [hnsl, hi0]; simp)
          have hu : u = .slice none 0 0 := by
            rcases ow with ⟨_, q⟩ | ⟨bb, an, q, _⟩
            · exact q
            · exact (q hnil).elim
          refine ⟨some m', h2.size, rfl, l', fr, by omega, Nat.le_refl _, .inl ⟨hnil, hu⟩, fun y hy => by cases hy; exact lt_of_get (l'.yes m' rfl).2, by simp, ?_⟩
          rcases lat with rfl | ⟨_, y, q, _⟩
          · exact .inr ⟨e, m', rfl, by omega⟩
          · rw [e] at q; cases q
    obtain ⟨mi2, lo2, rfl, la2, fr2, hlo2, hlo2s, ow2, hml2, hne2, lat2⟩ := hq2
    simp (disch := first | omega | (simp only [newRow_size, Array.size_setIfInBounds, Array.size_push]; done) | (simp only [newRow_size, Array.size_setIfInBounds, Array.size_push]; omega)) [srcOf]
    have kN := rowKept h2 [.int .i64 (putR false R.1 R.2.1 (mi1, false)).2.2] 1 []
    have zN : (Ev.newRow h2 [.int .i64 (putR false R.1 R.2.1 (mi1, false)).2.2] 1 []).size = h2.size + 1 := by simp
    generalize Ev.newRow h2 [.int .i64 (putR false R.1 R.2.1 (mi1, false)).2.2] 1 [] = h3 at kN zN ⊢
    refine Ans.next ((ow2.keep (fun c _ hc => kN.get hc (by simp))).app (by omega) (by rw [hnsl]; omega) _) ?_
    rintro u' h4 ⟨ow4, z4, k4⟩
    simp (disch := first | omega | (simp only [newRow_size, Array.size_setIfInBounds, Array.size_push]; done) | (simp only [newRow_size, Array.size_setIfInBounds, Array.size_push]; omega)) [r16_6, hw]
    have la4 : LineAt h4 b mi2 (putR false R.1 R.2.1 (mi1, false)).1 (putR false R.1 R.2.1 (mi1, false)).2.1 := by
      have la3 := la2.keeps0 (kN.keeps (by simp))
      refine ⟨(k4 b (by omega)).trans la3.line, la3.no, fun x hx => ⟨(la3.yes x hx).1, (k4 x (hml2 x hx)).trans (la3.yes x hx).2⟩⟩
    refine ih (l.length - (i + 1)) _ _ (by omega) ⟨i + 1, u', mi2, lo2, rfl, by omega, rfl, fun c hc h1 h2 => (k4 c (by omega)).trans ((kN.get (by omega) (by simp)).trans (fr2 c hc h1 h2)), hlo2, by omega, ?_, ?_, hml2, fun e => (hne2 e).elim, lat2⟩
    · rw [hsn]; exact la4
    · rw [hsn]; exact ow4
  · have hii : i = l.length := by omega
    subst hii
    rw [List.take_length] at la ow
    simp (disch := first | omega | (simp only [newRow_size, Array.size_setIfInBounds, Array.size_push]; done) | (simp only [newRow_size, Array.size_setIfInBounds, Array.size_push]; omega)) [l16_7, r16_3, eqT, eqF, neT, neF, ltT, ltF, leT, leF, nltT, nltF, nleT, nleF, nneT, nneF, List.getElem?_cons_zero, List.getElem?_cons_succ, r16_8]
    subst hQ
    refine Ans.of ⟨b :: mi.toList, lo, .inr ⟨b, mi, rfl, rfl, la, rfl⟩, ⟨⟨zg, fun c hc hn => ?_⟩, ?_⟩, hlo, hlog, ow, ?_⟩
    · simp only [List.mem_cons, not_or] at hn
      exact kg c hc hn.1 (fun e => hn.2 (by simp [e]))
    · intro c hc
      rcases List.mem_cons.1 hc with rfl | hc
      · exact .inl (by simp)
      · rw [Option.mem_toList] at hc
        rcases lat with rfl | ⟨_, y, e, hy⟩
        · exact .inl (by simp [hc])
        · rw [e] at hc; cases hc; exact .inr hy
    · intro c hc
      rcases List.mem_cons.1 hc with rfl | hc
      · omega
      · rw [Option.mem_toList] at hc
        exact hml c hc

end Go.Proofs.Ytmenfnapbggglaa

/- LineOwn: act, copied, kept. -/
set_option linter.unusedSimpArgs false
set_option linter.unusedVariables false
namespace Go.Proofs.Ytmenfnapbggglaa
open Go.Ev

def actN (fl : Flight) (last : Int) (x : Stp) : List Int := if x.kind = 1 then (sendR false fl last (cut x.msgs)).2.2 else []

def ActO (h : H) (lv : Value) (r : Flight × Int) (ns : List Int) (W : List Nat) (u : Value) (h' : H) : Prop :=
  ∃ W' lo, LS h' lv r.1 r.2 false W' ∧ Moves h h' W W' ∧ h.size ≤ lo ∧ lo ≤ h'.size ∧ OwnI h' u ns lo ∧ ∀ c ∈ W', c < lo

set_option maxHeartbeats 2000000 in
theorem act_spec {F : Nat} (hF : 2000 ≤ F) {OL : Nat → Prop} {h : H} {lv : Value} {fl : Flight} {last : Int} {W : List Nat} (s : LS h lv fl last false W) (gd : Gd fl last) (hlast : last ≤ 100000) {xcs : List Value} {x : Stp} (sx : StpC OL h xcs x) :
    Ans (cf F 43 [lv, .agg ⟨xcs⟩] h) (ActO h lv (stepL false fl last x) (actN fl last x) W) := by
  generalize hQ : ActO h lv (stepL false fl last x) (actN fl last x) W = Q
  obtain ⟨F, rfl⟩ : ∃ G, F = G + 1 := ⟨F - 1, by omega⟩
  rw [cf_step (a := a43) rfl rfl (by simp [a43])]
  obtain ⟨vm, rfl, sl⟩ := sx
  have om := sl.one
  simp only [oneCell] at om
  have hWl := s.lt
  simp (disch := first | omega | (simp only [newRow_size, Array.size_setIfInBounds, Array.size_push]; done) | (simp only [newRow_size, Array.size_setIfInBounds, Array.size_push]; omega)) [a43, r43_0, om]
  generalize hxx : [Value.int .i64 x.kind, .int .i64 x.on, vm, .int .i64 x.n, .int .i64 x.at', .int .i64 x.turn] = xx
  have hxb : hget (Ev.newRow h xx 0 []) h.size = some (.cells xx 0 true []) := by simp
  have k0 := rowKept h xx 0 []
  have z0 : (Ev.newRow h xx 0 []).size = h.size + 1 := by simp
  generalize Ev.newRow h xx 0 [] = g at hxb k0 z0 ⊢
  subst hxx
  have hxbs := lt_of_get hxb
  have sg := s.kept k0 (by simp)
  have fin : ∀ g' (r : Flight × Int) , stepL false fl last x = r → x.kind ≠ 1 → LS g' lv r.1 r.2 false W → Kept g g' W → Ans (some (Value.slice none 0 0, g')) Q := by
    intro g' r hst hk1 ls k
    have y := k.1
    subst hQ
    rw [hst]
    have ha : actN fl last x = [] := by unfold actN; rw [if_neg hk1]
    rw [ha]
    exact Ans.of ⟨W, g'.size, ls, ⟨(k0.weak (by simp)).trans k, fun c hc => .inl hc⟩, by omega, Nat.le_refl _, .inl ⟨rfl, rfl⟩, fun c hc => ls.lt c hc⟩
  by_cases h1 : x.kind = 1
  · have hm : stepL false fl last x = ((sendR false fl last (cut x.msgs)).1, (sendR false fl last (cut x.msgs)).2.1) := by unfold stepL; rw [if_pos h1]
    have ha : actN fl last x = (sendR false fl last (cut x.msgs)).2.2 := by unfold actN; rw [if_pos h1]
    have hcl := cut_le x.msgs
    simp (disch := first | omega | (simp only [newRow_size, Array.size_setIfInBounds, Array.size_push]; done) | (simp only [newRow_size, Array.size_setIfInBounds, Array.size_push]; omega)) [r43_1, hxb, r43_2, h1, eqT, eqF, neT, neF, ltT, ltF, leT, leF, nltT, nltF, nleT, nleF, nneT, nneF, List.getElem?_cons_zero, List.getElem?_cons_succ, r43_3]
    have sl' := SlM.imp sl (ok' := OL) (fun _ _ q => q) (keep_of k0.c (by simp))
    refine Ans.next (cutS_spec (F := F) (by omega) sl') ?_
    rintro u g1 ⟨bm, k1⟩
    have y1 := k1.1
    obtain ⟨mv1, hB⟩ := Bld.msgs bm
    simp (disch := first | omega | (simp only [newRow_size, Array.size_setIfInBounds, Array.size_push]; done) | (simp only [newRow_size, Array.size_setIfInBounds, Array.size_push]; omega)) []
    refine Ans.next ((sg.kept k1 (by simp)).sendO (F := F) (by omega) gd hcl mv1 hlast (cut_slen _) (fun x o n c e q => by have := hB x o n c e; have := hWl x q; omega)) ?_
    rintro un g2 ⟨W', lo, ls2, m2, hlo, hlos, ow, hw⟩
    simp (disch := first | omega | (simp only [newRow_size, Array.size_setIfInBounds, Array.size_push]; done) | (simp only [newRow_size, Array.size_setIfInBounds, Array.size_push]; omega)) []
    subst hQ
    rw [hm, ha]
    refine Ans.of ⟨W', lo, ls2, ⟨((k0.trans k1).weak (by simp)).trans m2.1, fun c hc => ?_⟩, by omega, hlos, ow, hw⟩
    rcases m2.2 c hc with r | r
    · exact .inl r
    · exact .inr (by omega)
  by_cases h2 : x.kind = 2
  · have hm : stepL false fl last x = (takeR x.n fl, last) := by unfold stepL; rw [if_neg h1, if_pos h2]
    simp (disch := first | omega | (simp only [newRow_size, Array.size_setIfInBounds, Array.size_push]; done) | (simp only [newRow_size, Array.size_setIfInBounds, Array.size_push]; omega)) [r43_1, hxb, r43_2, h2, eqT, eqF, neT, neF, ltT, ltF, leT, leF, nltT, nltF, nleT, nleF, nneT, nneF, List.getElem?_cons_zero, List.getElem?_cons_succ, r43_4, r43_5]
    refine Ans.next (sg.take (F := F) (by omega) gd.w x.n) ?_
    rintro v g1 ⟨rfl, ls1, k1⟩
    simp (disch := first | omega | (simp only [newRow_size, Array.size_setIfInBounds, Array.size_push]; done) | (simp only [newRow_size, Array.size_setIfInBounds, Array.size_push]; omega)) [r43_10]
    exact fin g1 _ hm h1 ls1 k1
  by_cases h3 : x.kind = 3
  · have hm : stepL false fl last x = ((doubleR false x.n fl last).1, (doubleR false x.n fl last).2.1) := by unfold stepL; rw [if_neg h1, if_neg h2, if_pos h3]
    simp (disch := first | omega | (simp only [newRow_size, Array.size_setIfInBounds, Array.size_push]; done) | (simp only [newRow_size, Array.size_setIfInBounds, Array.size_push]; omega)) [r43_1, hxb, r43_2, h3, eqT, eqF, neT, neF, ltT, ltF, leT, leF, nltT, nltF, nleT, nleF, nneT, nneF, List.getElem?_cons_zero, List.getElem?_cons_succ, r43_4, r43_6, r43_7]
    refine Ans.next (sg.double (F := F) (by omega) gd.w (by omega) x.n) ?_
    rintro v g1 ⟨rfl, ls1, k1⟩
    simp (disch := first | omega | (simp only [newRow_size, Array.size_setIfInBounds, Array.size_push]; done) | (simp only [newRow_size, Array.size_setIfInBounds, Array.size_push]; omega)) [r43_10]
    exact fin g1 _ hm h1 ls1 k1
  by_cases h4 : x.kind = 4
  · have hm : stepL false fl last x = ((spoilR x.n x.at' x.turn fl).1, last) := by unfold stepL; rw [if_neg h1, if_neg h2, if_neg h3, if_pos h4]
    simp (disch := first | omega | (simp only [newRow_size, Array.size_setIfInBounds, Array.size_push]; done) | (simp only [newRow_size, Array.size_setIfInBounds, Array.size_push]; omega)) [r43_1, hxb, r43_2, h4, eqT, eqF, neT, neF, ltT, ltF, leT, leF, nltT, nltF, nleT, nleF, nneT, nneF, List.getElem?_cons_zero, List.getElem?_cons_succ, r43_4, r43_6, r43_8, r43_9]
    refine Ans.next (sg.spoil (F := F) (by omega) x.n x.at' x.turn) ?_
    rintro v g1 ⟨rfl, ls1, k1⟩
    simp (disch := first | omega | (simp only [newRow_size, Array.size_setIfInBounds, Array.size_push]; done) | (simp only [newRow_size, Array.size_setIfInBounds, Array.size_push]; omega)) [r43_10]
    exact fin g1 _ hm h1 ls1 k1
  · have hm : stepL false fl last x = (fl, last) := by unfold stepL; rw [if_neg h1, if_neg h2, if_neg h3, if_neg h4]
    simp (disch := first | omega | (simp only [newRow_size, Array.size_setIfInBounds, Array.size_push]; done) | (simp only [newRow_size, Array.size_setIfInBounds, Array.size_push]; omega)) [r43_1, hxb, r43_2, h1, h2, h3, h4, eqT, eqF, neT, neF, ltT, ltF, leT, leF, nltT, nltF, nleT, nleF, nneT, nneF, List.getElem?_cons_zero, List.getElem?_cons_succ, r43_4, r43_6, r43_8, r43_10]
    exact fin g _ hm h1 sg (Kept.refl _ _)

theorem LS.numbersO {F : Nat} (hF : 1 ≤ F) {h : H} {lv : Value} {fl : Flight} {last : Int} {nn : Bool} {W : List Nat} (s : LS h lv fl last nn W) (w : Fl fl last) (hl : fl.length ≤ 256) (hlast : last ≤ 1000000000) :
    Ans (cf F 26 [lv] h) fun u h' => OwnI h' u (fl.map (·.1)) h.size ∧ Kept h h' [] := by
  obtain ⟨F, rfl⟩ : ∃ G, F = G + 1 := ⟨F - 1, by omega⟩
  rw [cf_X (x := keysX) rfl]
  rcases s with ⟨rfl, _, rfl, rfl⟩ | ⟨b, m, rfl, _, s, rfl⟩
  · exact Ans.of ⟨.inl ⟨rfl, rfl⟩, Kept.refl _ _⟩
  · have hb : h[b]? = some (.cells [.map m, .int .i64 last] 0 true []) := s.line
    cases m with
    | none =>
      have := s.no rfl
      subst this
      have hr : rd h b 0 1 = some [.map none] := by simp only [rd, hb]; rfl
      refine ⟨_, _, by simp only [keysX, hr], .inl ⟨rfl, rfl⟩, Kept.refl _ _⟩
    | some x =>
      have hx : h[x]? = some (.map (ents fl) true) := (s.yes x rfl).2
      have hr : rd h b 0 1 = some [.map (some x)] := by simp only [rd, hb]; rfl
      have hpw : (fl.map (·.1)).Pairwise (· < ·) := by rw [List.pairwise_map]; exact w.rise
      have hnd : (fl.map (·.1)).Nodup := hpw.imp fun h => Int.ne_of_lt h
      have hms : ((fl.map (·.1)).mergeSort fun x y => decide (x ≤ y)) = fl.map (·.1) := List.mergeSort_of_pairwise (hpw.imp fun h => by simpa using Int.le_of_lt h)
      have hbd : ∀ n ∈ fl.map (·.1), 0 ≤ n ∧ n ≤ 1000000000 := by
        intro n hn
        obtain ⟨p, hp, rfl⟩ := List.mem_map.1 hn
        have := w.bnd p hp
        omega
      have hk := intKeys_ents fl
      by_cases he : fl = []
      · subst he
        refine ⟨_, _, by simp only [keysX, hr, hx, hk, if_pos (And.intro hnd (And.intro (show ([] : List Int).length ≤ 1000000 by simp) hbd))]; rfl, .inl ⟨rfl, rfl⟩, Kept.refl _ _⟩
      · have hne : fl.map (·.1) ≠ [] := by simpa using he
        have hlen : (fl.map (·.1)).length ≤ 1000000 := by simp; omega
        refine ⟨_, _, by simp only [keysX, hr, hx, hk, if_pos (And.intro hnd (And.intro hlen hbd)), if_neg hne, hms]; rfl, .inr ⟨h.size, [], hne, rfl, by simp [ints], Nat.le_refl _, by simp⟩, rowKept _ _ _ _⟩

theorem ints_one (ns : List Int) : (ints ns).all oneCell = true := by simp [ints]

theorem copied_spec {F : Nat} (hF : 1 ≤ F) {h : H} {ok : Nat → Prop} {v : Value} {ns : List Int} (s : SlR ok 1 IntC h v ns) (hn : ns.length ≤ 100000) :
    Ans (cf F 46 [v] h) fun u h' => SlR (fun c => h.size ≤ c ∧ c < h'.size) 1 IntC h' u ns ∧ Kept h h' [] := by
  generalize hQ : (fun (u : Value) (h' : H) => SlR (fun c => h.size ≤ c ∧ c < h'.size) 1 IntC h' u ns ∧ Kept h h' []) = Q
  obtain ⟨F, rfl⟩ : ∃ G, F = G + 1 := ⟨F - 1, by omega⟩
  rw [cf_step (a := a46) rfl rfl (by simp [a46])]
  obtain ⟨new, e1, e2, e3⟩ := s.src (by omega) (fun cs x _ q => by rw [show cs = [.int .i64 x] from q]; rfl)
  rw [Nat.mul_one] at e2
  have hnew : new = ints ns := by
    apply List.ext_getElem?
    intro i
    by_cases hi : i < ns.length
    · obtain ⟨x, hx⟩ : ∃ x, ns[i]? = some x := ⟨_, List.getElem?_eq_getElem hi⟩
      have := e3 i x hx
      rw [Nat.mul_one] at this
      have this : (new.drop i).take 1 = [.int .i64 x] := this
      have h2 := congrArg (fun z => z[0]?) this
      simp only [List.getElem?_take_of_lt (show 0 < 1 by omega), List.getElem?_drop] at h2
      rw [Nat.add_zero] at h2
      rw [h2]
      simp [ints, hx]
    · rw [List.getElem?_eq_none (by omega), List.getElem?_eq_none (by simp [ints]; omega)]
  have htx := s.ne_text
  simp only [isText] at htx
  have ho := ints_one ns
  subst hnew
  have hb : ns.length * 8 ≤ 140737488355328 := by omega
  by_cases h0 : ns.length = 0
  · have : ns = [] := List.eq_nil_of_length_eq_zero h0
    subst this
    simp (disch := first | omega | (simp only [newRow_size, Array.size_setIfInBounds, Array.size_push]; done) | (simp only [newRow_size, Array.size_setIfInBounds, Array.size_push]; omega)) [a46, r46_0, r46_1, r46_2, e1, htx, appendTo, r46_3, ints]
    subst hQ
    exact Ans.of ⟨.inl ⟨.inl rfl, rfl⟩, Kept.refl _ _⟩
  · have hne : ns ≠ [] := fun e => h0 (by rw [e]; rfl)
    generalize hI : ints ns = I at e1 ho
    simp (disch := first | omega | (simp only [newRow_size, Array.size_setIfInBounds, Array.size_push]; done) | (simp only [newRow_size, Array.size_setIfInBounds, Array.size_push]; omega)) [a46, r46_0, r46_1, r46_2, e1, htx, ho, appendTo, h0, hne, hb, r46_3]
    subst hQ
    have hg : hget (Ev.newRow h I 1 []) h.size = some (.cells I 1 true []) := by simp
    have hsz : (Ev.newRow h I 1 []).size = h.size + 1 := by simp
    have hin : OwnI (Ev.newRow h I 1 []) (.slice (some ⟨h.size, 0, none⟩) ns.length ns.length) ns h.size := .inr ⟨h.size, [], hne, rfl, by rw [hI]; exact hg, Nat.le_refl _, by simp⟩
    exact Ans.of ⟨hin.sl, rowKept _ _ _ _⟩

end Go.Proofs.Ytmenfnapbggglaa

/- LineOwn: kept: a list written full and gone on from. -/
set_option linter.unusedSimpArgs false
set_option linter.unusedVariables false
namespace Go.Proofs.Ytmenfnapbggglaa
open Go.Ev

/-- What goes on from a list of n that is full of a mark. -/
def glist (n : Nat) (mark : Int) (q : Nat) : List Int := List.replicate n mark ++ (List.range q).map fun (k : Nat) => mark - 1 - (k : Int)

theorem glist_snoc (n : Nat) (mark : Int) (q : Nat) : glist n mark (q + 1) = glist n mark q ++ [mark - 1 - (q : Int)] := by
  simp [glist, List.range_succ]
theorem glist_len (n : Nat) (mark : Int) (q : Nat) : (glist n mark q).length = n + q := by simp [glist]

def region (lo hi s : Nat) (c : Nat) : Prop := (lo ≤ c ∧ c < hi) ∨ s ≤ c

def KeptO (h : H) (n : Nat) (mark : Int) (lo hi : Nat) (u : Value) (h' : H) : Prop :=
  ∃ L G, u = .agg ⟨[L, G, .int .i64 mark]⟩ ∧ SlR (region lo hi h.size) 1 IntC h' L (List.replicate n mark) ∧ SlR (region lo hi h.size) 1 IntC h' G (glist n mark 64) ∧ h.size ≤ h'.size ∧ ∀ c, c < h.size → ¬ (lo ≤ c ∧ c < hi) → hget h' c = hget h c

theorem mark_next (mark : Int) (ns : List Int) {k : Nat} (hk : k < ns.length) : (ints (List.replicate k mark ++ ns.drop k)).take k ++ .int .i64 mark :: (ints (List.replicate k mark ++ ns.drop k)).drop (k + 1) = ints (List.replicate (k + 1) mark ++ ns.drop (k + 1)) := by
  have h1 : ints (List.replicate k mark ++ ns.drop k) = ints (List.replicate k mark) ++ ints (ns.drop k) := by simp [ints]
  have h2 : (ints (List.replicate k mark)).length = k := by simp [ints]
  rw [h1, List.take_left' h2, ← List.drop_drop, List.drop_left' h2]
  have h3 : (ints (ns.drop k)).drop 1 = ints (ns.drop (k + 1)) := by
    simp only [ints]
    rw [← List.map_drop, List.drop_drop]
  rw [h3]
  simp [ints, List.replicate_succ']

set_option maxHeartbeats 2000000 in
theorem kept_spec {F : Nat} (hF : 100100 ≤ F) {h : H} {v : Value} {ns : List Int} {lo hi : Nat} (s : OwnI h v ns lo) (hhi : ∀ b o n c, v = .slice (some ⟨b, o, none⟩) n c → b < hi) (hs : hi ≤ h.size) (hn : ns.length ≤ 100000) (mark : Int) (hm : -1000000 ≤ mark ∧ mark ≤ 0) :
    Ans (cf F 44 [v, .int .i64 mark] h) (KeptO h ns.length mark lo hi) := by
  generalize hQ : KeptO h ns.length mark lo hi = Q
  obtain ⟨F, rfl⟩ : ∃ G, F = G + 1 := ⟨F - 1, by omega⟩
  have hres : a44.results = [.cellN 4 3] := rfl
  have hlv : lenV v = some (.int .i64 ns.length) := s.sl.len
  rw [cf_step (a := a44) rfl rfl (by simp [a44]), hres]
  simp (disch := first | omega | (simp only [newRow_size, Array.size_setIfInBounds, Array.size_push]; done) | (simp only [newRow_size, Array.size_setIfInBounds, Array.size_push]; omega)) [a44, r44_0, r44_1]
  have k0 := rowKept h [.slice none 0 0, .slice none 0 0, .int .i64 0] 0 []
  have h0 : hget (Ev.newRow h [.slice none 0 0, .slice none 0 0, .int .i64 0] 0 []) h.size = some (.cells [.slice none 0 0, .slice none 0 0, .int .i64 0] 0 true []) := by simp
  have z0 : (Ev.newRow h [.slice none 0 0, .slice none 0 0, .int .i64 0] 0 []).size = h.size + 1 := by simp
  generalize Ev.newRow h [.slice none 0 0, .slice none 0 0, .int .i64 0] 0 [] = g0 at k0 h0 z0 ⊢
  have s0 : OwnI g0 v ns lo := s.keep (fun c _ hc => k0.get hc (by simp))
  -- the marks
  refine loop_rule (fun mm e g => ∃ (k : Nat), mm = ns.length - k ∧ k ≤ ns.length ∧ e = [(0, v), (1, .int .i64 mark), (4, .pointer (some ⟨h.size, 0, none⟩)), (5, .int .i64 k)] ∧ OwnI g v (List.replicate k mark ++ ns.drop k) lo ∧ g.size = g0.size ∧ (∀ c, c < g0.size → ¬ (lo ≤ c ∧ c < hi) → hget g c = hget g0 c)) ?_ _ ns.length _ _ (by omega) ⟨0, by omega, by omega, rfl, by simpa using s0, rfl, fun _ _ _ => rfl⟩
  rintro mm e g again ⟨k, rfl, hkl, rfl, sk, zk, fk⟩ ih
  have hw : IntKind.i64.wrap ((k : Int) + 1) = ((k + 1 : Nat) : Int) := by rw [wrap_id (by omega) (by omega)]; rfl
  by_cases hlt : k < ns.length
  · have hkc : (k : Int) < (ns.length : Int) := by omega
    have hlen : (List.replicate k mark ++ ns.drop k).length = ns.length := by simp; omega
    rcases sk with ⟨e, _⟩ | ⟨b, an, hne, e, hg, hlo, ha⟩
    · rw [e] at hlen; simp at hlen; omega
    · rw [hlen] at e
      have hgs := lt_of_get hg
      have hbhi := hhi b 0 _ _ e
      obtain ⟨kk, zkk⟩ := kill_kept an g
      have hset := mark_next mark ns hlt
      have hil : (ints (List.replicate k mark ++ ns.drop k)).length = ns.length := by simp [ints]; omega
      have hle : k + 1 ≤ (ints (List.replicate k mark ++ ns.drop k)).length := by omega
      generalize hI : ints (List.replicate k mark ++ ns.drop k) = I at hg hil hle hset
      have hlt' : k < ns.length := hlt
      rw [e]
      simp (disch := first | omega | (simp only [newRow_size, Array.size_setIfInBounds, Array.size_push]; done) | (simp only [newRow_size, Array.size_setIfInBounds, Array.size_push]; omega)) [l44_5, r44_2, hkc, eqT, eqF, neT, neF, ltT, ltF, leT, leF, nltT, nltF, nleT, nleF, nneT, nneF, List.getElem?_cons_zero, List.getElem?_cons_succ, r44_3, hlt', hg, hle, r44_4, hw]
      rw [← e, hset]
      have zs : ((kill g an).setIfInBounds b (.cells (ints (List.replicate (k + 1) mark ++ ns.drop (k + 1))) 1 true [])).size = g.size := by simp [zkk]
      refine ih (ns.length - (k + 1)) _ _ (by omega) ⟨k + 1, rfl, by omega, rfl, ?_, by omega, ?_⟩
      · refine .inr ⟨b, [], by simp, ?_, by simp [zkk, hgs], hlo, by simp⟩
        rw [e]
        congr 1 <;> (simp; omega)
      · intro c hc hno
        rw [set_other (by omega)]
        refine (kk.get (by omega) (fun q => ?_)).trans (fk c hc hno)
        have := ha c q
        omega
  · have hkk : k = ns.length := by omega
    subst hkk
    rw [List.drop_length, List.append_nil] at sk
    have hvv := s.sl.vc
    simp only [vcells] at hvv
    have hvo := s.sl.one
    simp only [oneCell] at hvo
    simp (disch := first | omega | (simp only [newRow_size, Array.size_setIfInBounds, Array.size_push]; done) | (simp only [newRow_size, Array.size_setIfInBounds, Array.size_push]; omega)) [l44_5, r44_2, hlv, eqT, eqF, neT, neF, ltT, ltF, leT, leF, nltT, nltF, nleT, nleF, nneT, nneF, List.getElem?_cons_zero, List.getElem?_cons_succ, r44_6, hvv, hvo, r44_7]
    have hsl := sk.sl
    have k1 := rowKept g [v, v, .int .i64 mark] 0 []
    have h1 : hget (Ev.newRow g [v, v, .int .i64 mark] 0 []) g.size = some (.cells [v, v, .int .i64 mark] 0 true []) := by simp
    have z1 : (Ev.newRow g [v, v, .int .i64 mark] 0 []).size = g.size + 1 := by simp
    generalize Ev.newRow g [v, v, .int .i64 mark] 0 [] = g1 at k1 h1 z1 ⊢
    have hsl1 : SlR (region lo hi g1.size) 1 IntC g1 v (List.replicate ns.length mark) := by
      rcases sk with ⟨e, e'⟩ | ⟨b, an, hne, e, hg, hlo, ha⟩
      · exact .inl ⟨.inl e', e⟩
      · have hsk : OwnI g1 v (List.replicate ns.length mark) lo := .inr ⟨b, an, hne, e, (k1.get (lt_of_get hg) (by simp)).trans hg, hlo, ha⟩
        have hb := hhi b 0 _ _ e
        rcases hsk.sl with q | ⟨b', o, c, cs, e2, q⟩
        · exact .inl q
        · have e3 := e2
          rw [e] at e3
          injection e3 with e3 _ _
          injection e3 with e3
          injection e3 with e3 _ _
          subst e3
          exact .inr ⟨b, o, c, cs, e2, q.1, .inl ⟨hlo, hb⟩, q.2.2⟩
    have bl1 : Bld (region lo hi g1.size) 1 IntC g1 v (glist ns.length mark 0) := by
      have hg0 : glist ns.length mark 0 = List.replicate ns.length mark := by simp [glist]
      rw [hg0]
      rcases sk with ⟨e, e'⟩ | ⟨b, an, hne, e, hg, hlo, ha⟩
      · exact .inl ⟨e', e⟩
      · have hb := hhi b 0 _ _ e
        refine .inr ⟨b, ints (List.replicate ns.length mark), an, e, .inl ⟨hlo, hb⟩, (k1.get (lt_of_get hg) (by simp)).trans hg, by simp [ints], fun i x hx => ?_⟩
        show ((ints _).drop (i * 1)).take 1 = [.int .i64 x]
        rw [Nat.mul_one, List.take_one, List.head?_drop]
        simp only [ints, List.getElem?_map, hx]
        rfl
    have hb1 : ∀ b o n c, v = .slice (some ⟨b, o, none⟩) n c → b < hi := hhi
    refine loop_rule (fun mm e g' => ∃ (q : Nat) (G : Value), mm = 64 - q ∧ q ≤ 64 ∧ e = [(1, .int .i64 mark), (4, .pointer (some ⟨h.size, 0, none⟩)), (6, .pointer (some ⟨g.size, 0, none⟩)), (7, .int .i64 q)] ∧ hget g' g.size = some (.cells [v, G, .int .i64 mark] 0 true []) ∧ g1.size ≤ g'.size ∧ (∀ c, c < g.size → ¬ (lo ≤ c ∧ c < hi) → hget g' c = hget g1 c) ∧ SlR (region lo hi g1.size) 1 IntC g' v (List.replicate ns.length mark) ∧ Bld (region lo hi g1.size) 1 IntC g' G (glist ns.length mark q)) ?_ _ 64 _ _ (by omega) ⟨0, v, by omega, by omega, rfl, h1, Nat.le_refl _, fun _ _ _ => rfl, hsl1, bl1⟩
    · rintro mm e g' again' ⟨q, G, rfl, hq, rfl, hb', zg', fg', sl', bl'⟩ ih'
      have nreg : ¬ region lo hi g1.size g.size := fun q => by
        rcases q with q | q <;> omega
      have hG := bl'.ne nreg
      have hw : IntKind.i64.wrap ((q : Int) + 1) = ((q + 1 : Nat) : Int) := by rw [wrap_id (by omega) (by omega)]; rfl
      by_cases hq64 : q < 64
      · have hqc : (q : Int) < 64 := by omega
        have hw2 : IntKind.i64.wrap (mark - 1) = mark - 1 := wrap_id (by omega) (by omega)
        have hw3 : IntKind.i64.wrap (mark - 1 - (q : Int)) = mark - 1 - (q : Int) := wrap_id (by omega) (by omega)
        have hbs := lt_of_get hb'
        simp (disch := first | omega | (simp only [newRow_size, Array.size_setIfInBounds, Array.size_push]; done) | (simp only [newRow_size, Array.size_setIfInBounds, Array.size_push]; omega)) [l44_11, r44_8, hqc, eqT, eqF, neT, neF, ltT, ltF, leT, leF, nltT, nltF, nleT, nleF, nneT, nneF, List.getElem?_cons_zero, List.getElem?_cons_succ, r44_9, hb', hw2, hw3, srcOf]
        have kN := rowKept g' [.int .i64 (mark - 1 - (q : Int))] 1 []
        have zN : (Ev.newRow g' [.int .i64 (mark - 1 - (q : Int))] 1 []).size = g'.size + 1 := by simp
        have blN := bl'.kept kN (by simp) (fun _ _ _ q => q)
        have slN := SlI.imp sl' (ok' := region lo hi g1.size) (fun _ _ q => q) (keep_of kN.c (by simp))
        generalize Ev.newRow g' [.int .i64 (mark - 1 - (q : Int))] 1 [] = gN at kN zN blN slN ⊢
        refine Ans.next (blN.app (x := mark - 1 - (q : Int)) (bytes := 8) rfl (by rw [glist_len]; omega) (.inr (by omega)) (fun h' _ cs y _ q => q) (fun h' _ => rfl)) ?_
        rintro G' g5 ⟨b5, kc5, z5, f5, hG5⟩
        have y5 := kc5.1
        have oG := b5.sl.one
        simp only [oneCell] at oG
        have vG := b5.sl.vc
        simp only [vcells] at vG
        have hb5 := (f5 g.size (by omega) hG).trans ((kN.get hbs (by simp)).trans hb')
        have hb5s := lt_of_get hb5
        simp (disch := first | omega | (simp only [newRow_size, Array.size_setIfInBounds, Array.size_push]; done) | (simp only [newRow_size, Array.size_setIfInBounds, Array.size_push]; omega)) [hb5, oG, vG, r44_10, hw]
        have ks := kept_at (g := g5) (b := g.size) (.cells [v, G', .int .i64 mark] 0 true [])
        refine ih' (64 - (q + 1)) _ _ (by omega) ⟨q + 1, G', rfl, by omega, rfl, by simp [hb5s], by simp; omega, ?_, ?_, ?_⟩
        · intro c hc hno
          rw [set_other (by omega)]
          refine (f5 c (by omega) ?_).trans ((kN.get (by omega) (by simp)).trans (fg' c hc hno))
          have : ¬ region lo hi g1.size c := fun q => by
            rcases q with q | q
            · exact hno q
            · omega
          exact bl'.ne this
        · exact SlI.imp (SlI.imp slN (ok' := region lo hi g1.size) (fun _ _ q => q) (keep_of kc5 (by simp))) (fun _ _ q => q) (keep_of ks.c (by intro c hc; simp at hc; subst hc; exact nreg))
        · rw [glist_snoc]
          exact b5.kept ks (by intro c hc; simp at hc; subst hc; exact nreg) (fun _ _ _ q => q)
      · have hqq : q = 64 := by omega
        subst hqq
        have ovG := bl'.sl.one
        simp only [oneCell] at ovG
        have hbs := lt_of_get hb'
        have hh0 : hget g' h.size = some (.cells [.slice none 0 0, .slice none 0 0, .int .i64 0] 0 true []) := (fg' h.size (by omega) (by omega)).trans ((k1.get (by omega) (by simp)).trans ((fk h.size (by omega) (by omega)).trans h0))
        have hh0s := lt_of_get hh0
        simp (disch := first | omega | (simp only [newRow_size, Array.size_setIfInBounds, Array.size_push]; done) | (simp only [newRow_size, Array.size_setIfInBounds, Array.size_push]; omega)) [l44_11, r44_8, eqT, eqF, neT, neF, ltT, ltF, leT, leF, nltT, nltF, nleT, nleF, nneT, nneF, List.getElem?_cons_zero, List.getElem?_cons_succ, r44_12, hb', hvo, ovG, hh0]
        subst hQ
        have ks := kept_at (g := g') (b := h.size) (.cells [v, G, .int .i64 mark] 0 true [])
        have nregh : ¬ region lo hi g1.size h.size := fun q => by
          rcases q with q | q <;> omega
        have hreg : ∀ c, region lo hi g1.size c → region lo hi h.size c := fun c q => by
          rcases q with q | q
          · exact .inl q
          · exact .inr (by omega)
        refine Ans.of ⟨v, G, rfl, SlI.imp sl' (fun c _ q => hreg c q) (keep_of ks.c (by intro c hc; simp at hc; subst hc; exact nregh)), SlI.imp bl'.sl (fun c _ q => hreg c q) (keep_of ks.c (by intro c hc; simp at hc; subst hc; exact nregh)), by simp; omega, ?_⟩
        intro c hc hno
        rw [set_other (by omega)]
        exact (fg' c (by omega) hno).trans ((k1.get (by omega) (by simp)).trans ((fk c (by omega) hno).trans (k0.get hc (by simp))))

end Go.Proofs.Ytmenfnapbggglaa

/- LineOwn: still: all of it is as it was written. -/
set_option linter.unusedSimpArgs false
set_option linter.unusedVariables false
namespace Go.Proofs.Ytmenfnapbggglaa
open Go.Ev

def KptC (ok : Nat → Prop) (h : H) (cs : List Value) (x : Nat × Int) : Prop := ∃ L G, cs = [L, G, .int .i64 x.2] ∧ SlR ok 1 IntC h L (List.replicate x.1 x.2) ∧ SlR ok 1 IntC h G (glist x.1 x.2 64)

theorem KptC.imp {ok ok' : Nat → Prop} {h h' : H} {cs : List Value} {x : Nat × Int} (s : KptC ok h cs x) (h1 : ∀ b, b < h.size → ok b → ok' b) (h3 : ∀ b cs, ok b → cel h b = some cs → cel h' b = some cs) : KptC ok' h' cs x := by
  obtain ⟨L, G, e, s1, s2⟩ := s
  exact ⟨L, G, e, SlI.imp s1 h1 h3, SlI.imp s2 h1 h3⟩

theorem glist_at {n i : Nat} {mark : Int} (hi : i < n + 64) : (glist n mark 64)[i]? = some (if i < n then mark else mark - 1 - ((i : Int) - (n : Int))) := by
  unfold glist
  by_cases h : i < n
  · rw [List.getElem?_append_left (by simpa using h), if_pos h]
    simp [h]
  · rw [List.getElem?_append_right (by simp; omega), if_neg h, List.length_replicate, List.getElem?_map, List.getElem?_range (by omega)]
    simp
    omega

def stIn : ACode := (.seq (.region r45_5 [0, 3, 4, 5, 6]) (.block 2 (.loop [0, 3, 4, 5, 6] l45_13)))
theorem l45_cut : l45_15 = (.seq (.seq (.region r45_2 [0, 3, 11]) (.cond (.tmp 11) .skip (.exit 0))) (.seq (.block 1 (.seq (.region r45_3 [0, 3, 4]) (.seq (.region r45_4 [0, 3, 4, 5]) stIn))) (.region r45_14 [0, 3]))) := rfl

set_option maxHeartbeats 2000000 in
theorem stIn_spec {F : Nat} (hF : 100200 ≤ F) {g : H} {eb : Nat} {v L G : Value} {j : Nat} {x : Nat × Int} {ok : Nat → Prop} (heb : hget g eb = some (.cells [L, G, .int .i64 x.2] 0 true [])) (sL : SlR ok 1 IntC g L (List.replicate x.1 x.2)) (sG : SlR ok 1 IntC g G (glist x.1 x.2 64)) (hx : x.1 ≤ 100000) (hm : -1000000 ≤ x.2 ∧ x.2 ≤ 0)
    {kn kr : K} {ke : Nat → K} {Q : Value → H → Prop}
    (hk : ∀ e : Env, Ans (kn ((0, v) :: (3, .int .i64 j) :: (4, .pointer (some ⟨eb, 0, none⟩)) :: e) g []) Q) :
    Ans (evC F (cf F) stIn kn ke kr [(0, v), (3, .int .i64 j), (4, .pointer (some ⟨eb, 0, none⟩)), (5, .int .i64 x.1)] g []) Q := by
  have hebs := lt_of_get heb
  have hlG := sG.len
  have hlL := sL.len
  rw [glist_len] at hlG
  rw [List.length_replicate] at hlL
  simp (disch := first | omega | (simp only [newRow_size, Array.size_setIfInBounds, Array.size_push]; done) | (simp only [newRow_size, Array.size_setIfInBounds, Array.size_push]; omega)) [stIn, r45_5]
  refine loop_rule (fun mm e g' => ∃ (i : Nat), mm = x.1 + 64 - i ∧ i ≤ x.1 + 64 ∧ e = [(0, v), (3, .int .i64 j), (4, .pointer (some ⟨eb, 0, none⟩)), (5, .int .i64 x.1), (6, .int .i64 i)] ∧ g' = g) ?_ _ (x.1 + 64) _ _ (by omega) ⟨0, by omega, by omega, rfl, rfl⟩
  rintro mm e g' again ⟨i, rfl, hi, rfl, rfl⟩ ih
  have hw : IntKind.i64.wrap ((i : Int) + 1) = ((i + 1 : Nat) : Int) := by rw [wrap_id (by omega) (by omega)]; rfl
  by_cases hlt : i < x.1 + 64
  · have hgi := glist_at (n := x.1) (mark := x.2) hlt
    obtain ⟨b, o, c, cs, es, lv, an, eG, hkb, hg, hle, hp⟩ := sG.at' hgi
    rw [glist_len] at eG
    have hgs := lt_of_get hg
    have hic : (i : Int) < ((x.1 + 64 : Nat) : Int) := by omega
    have hlt' : i < x.1 + 64 := hlt
    rw [Nat.mul_one] at hle
    by_cases hin : i < x.1
    · rw [if_pos hin] at hp
      have hp' : (cs.drop (o + i * 1)).take 1 = [.int .i64 x.2] := hp
      rw [Nat.mul_one] at hp'
      obtain ⟨b2, o2, c2, cs2, es2, lv2, an2, eL, hkb2, hg2, hle2, hp2⟩ := sL.at' (i := i) (x := x.2) (by simp [hin])
      rw [List.length_replicate] at eL
      have hp2' : (cs2.drop (o2 + i * 1)).take 1 = [.int .i64 x.2] := hp2
      rw [Nat.mul_one] at hp2' hle2
      have hg2s := lt_of_get hg2
      have hic2 : ¬ (x.1 : Int) ≤ (i : Int) := by omega
      have hic3 : (i : Int) < (x.1 : Int) := by omega
      rw [eG, eL] at heb
      simp (disch := first | omega | (simp only [newRow_size, Array.size_setIfInBounds, Array.size_push]; done) | (simp only [newRow_size, Array.size_setIfInBounds, Array.size_push]; omega)) [l45_13, r45_6, heb, hic, eqT, eqF, neT, neF, ltT, ltF, leT, leF, nltT, nltF, nleT, nleF, nneT, nneF, List.getElem?_cons_zero, List.getElem?_cons_succ, r45_7, r45_8, hic2, r45_10, hlt', hg, hp', hle, hin, hic3, hg2, hp2', hle2, r45_12, hw]
      exact ih (x.1 + 64 - (i + 1)) _ _ (by omega) ⟨i + 1, rfl, by omega, rfl, rfl⟩
    · rw [if_neg hin] at hp
      have hp' : (cs.drop (o + i * 1)).take 1 = [.int .i64 (x.2 - 1 - ((i : Int) - (x.1 : Int)))] := hp
      rw [Nat.mul_one] at hp'
      have hic2 : (x.1 : Int) ≤ (i : Int) := by omega
      have hic3 : ¬ (i : Int) < (x.1 : Int) := by omega
      have hw1 : IntKind.i64.wrap (x.2 - 1) = x.2 - 1 := wrap_id (by omega) (by omega)
      have hw2 : IntKind.i64.wrap (x.2 - 1 - (i : Int)) = x.2 - 1 - (i : Int) := wrap_id (by omega) (by omega)
      have hw3 : IntKind.i64.wrap (x.2 - 1 - (i : Int) + (x.1 : Int)) = x.2 - 1 - ((i : Int) - (x.1 : Int)) := by rw [wrap_id (by omega) (by omega)]; omega
      rw [eG] at heb
      simp (disch := first | omega | (simp only [newRow_size, Array.size_setIfInBounds, Array.size_push]; done) | (simp only [newRow_size, Array.size_setIfInBounds, Array.size_push]; omega)) [l45_13, r45_6, heb, hic, eqT, eqF, neT, neF, ltT, ltF, leT, leF, nltT, nltF, nleT, nleF, nneT, nneF, List.getElem?_cons_zero, List.getElem?_cons_succ, r45_7, r45_8, hic2, r45_9, hw1, hw2, hw3, r45_10, hlt', hg, hp', hle, hin, hic3, r45_12, hw]
      exact ih (x.1 + 64 - (i + 1)) _ _ (by omega) ⟨i + 1, rfl, by omega, rfl, rfl⟩
  · have hii : i = x.1 + 64 := by omega
    subst hii
    simp (disch := first | omega | (simp only [newRow_size, Array.size_setIfInBounds, Array.size_push]; done) | (simp only [newRow_size, Array.size_setIfInBounds, Array.size_push]; omega)) [l45_13, r45_6, heb, hlG, eqT, eqF, neT, neF, ltT, ltF, leT, leF, nltT, nltF, nleT, nleF, nneT, nneF, List.getElem?_cons_zero, List.getElem?_cons_succ]
    exact hk _

set_option maxHeartbeats 2000000 in
theorem still_spec {F : Nat} (hF : 100201 ≤ F) {h : H} {ok ok2 : Nat → Prop} {v : Value} {xs : List (Nat × Int)} (s : SlR ok2 3 (KptC ok) h v xs) (hl : xs.length ≤ 1000) (hx : ∀ x ∈ xs, x.1 ≤ 100000 ∧ -1000000 ≤ x.2 ∧ x.2 ≤ 0) :
    Ans (cf F 45 [v] h) fun u h' => u = .bool true ∧ Kept h h' [] := by
  generalize hQ : (fun (u : Value) (h' : H) => u = Value.bool true ∧ Kept h h' []) = Q
  obtain ⟨F, rfl⟩ : ∃ G, F = G + 1 := ⟨F - 1, by omega⟩
  have hln := s.len
  rw [cf_step (a := a45) rfl rfl (by simp [a45])]
  simp (disch := first | omega | (simp only [newRow_size, Array.size_setIfInBounds, Array.size_push]; done) | (simp only [newRow_size, Array.size_setIfInBounds, Array.size_push]; omega)) [a45, l45_cut, r45_0, r45_1]
  refine loop_rule (fun mm e g => ∃ (j : Nat), mm = xs.length - j ∧ j ≤ xs.length ∧ e = [(0, v), (3, .int .i64 j)] ∧ Kept h g []) ?_ _ xs.length _ _ (by omega) ⟨0, by omega, by omega, rfl, Kept.refl _ _⟩
  rintro mm e g again ⟨j, rfl, hj, rfl, kg⟩ ih
  have hw : IntKind.i64.wrap ((j : Int) + 1) = ((j + 1 : Nat) : Int) := by rw [wrap_id (by omega) (by omega)]; rfl
  by_cases hlt : j < xs.length
  · obtain ⟨x, hxx⟩ : ∃ x, xs[j]? = some x := ⟨_, List.getElem?_eq_getElem hlt⟩
    have hxb := hx x (List.mem_of_getElem? hxx)
    have sg : SlR (fun c => ok2 c) 3 (KptC fun c => ok c) g v xs := SlR.imp s (fun _ _ q => q) (fun cs x _ q => KptC.imp q (fun _ _ q => q) (keep_of kg.c (by simp))) (keep_of kg.c (by simp))
    obtain ⟨b, o, c, cs, es, lv, an, rfl, hkb, hg, hle, L, G, hp, sL, sG⟩ := sg.at' hxx
    have hgs := lt_of_get hg
    have hjc : (j : Int) < (xs.length : Int) := by omega
    have oL := sL.one
    have oG := sG.one
    simp only [oneCell] at oL oG
    have hlL := sL.len
    rw [List.length_replicate] at hlL
    simp (disch := first | omega | (simp only [newRow_size, Array.size_setIfInBounds, Array.size_push]; done) | (simp only [newRow_size, Array.size_setIfInBounds, Array.size_push]; omega)) [r45_2, hjc, eqT, eqF, neT, neF, ltT, ltF, leT, leF, nltT, nltF, nleT, nleF, nneT, nneF, List.getElem?_cons_zero, List.getElem?_cons_succ, r45_3, hlt, hg, hp, hle, oL, oG]
    have k1 := rowKept g [L, G, .int .i64 x.2] 0 []
    have h1 : hget (Ev.newRow g [L, G, .int .i64 x.2] 0 []) g.size = some (.cells [L, G, .int .i64 x.2] 0 true []) := by simp
    generalize Ev.newRow g [L, G, .int .i64 x.2] 0 [] = g1 at k1 h1 ⊢
    have h1s := lt_of_get h1
    simp (disch := first | omega | (simp only [newRow_size, Array.size_setIfInBounds, Array.size_push]; done) | (simp only [newRow_size, Array.size_setIfInBounds, Array.size_push]; omega)) [r45_4, h1, hlL]
    refine stIn_spec (F := F) (by omega) h1 (SlI.imp sL (ok' := ok) (fun _ _ q => q) (keep_of k1.c (by simp))) (SlI.imp sG (ok' := ok) (fun _ _ q => q) (keep_of k1.c (by simp))) hxb.1 hxb.2 ?_
    intro e
    simp (disch := first | omega | (simp only [newRow_size, Array.size_setIfInBounds, Array.size_push]; done) | (simp only [newRow_size, Array.size_setIfInBounds, Array.size_push]; omega)) [r45_14, hw]
    exact ih (xs.length - (j + 1)) _ _ (by omega) ⟨j + 1, rfl, by omega, rfl, kg.trans k1⟩
  · have hjj : j = xs.length := by omega
    subst hjj
    simp (disch := first | omega | (simp only [newRow_size, Array.size_setIfInBounds, Array.size_push]; done) | (simp only [newRow_size, Array.size_setIfInBounds, Array.size_push]; omega)) [r45_2, hln, eqT, eqF, neT, neF, ltT, ltF, leT, leF, nltT, nltF, nleT, nleF, nneT, nneF, List.getElem?_cons_zero, List.getElem?_cons_succ, r45_16]
    subst hQ
    exact Ans.of ⟨rfl, kg⟩

end Go.Proofs.Ytmenfnapbggglaa

/- LineOwn: marked: each list is written full at once; a twin goes on beside. -/
set_option linter.unusedSimpArgs false
set_option linter.unusedVariables false
namespace Go.Ev
theorem Bld.imp' {α : Type} {ok ok' : Nat → Prop} {w : Nat} {R R' : H → List Value → α → Prop} {h : H} {v : Value} {xs : List α} (s : Bld ok w R h v xs) (h1 : ∀ b, b < h.size → ok b → ok' b) (hR : ∀ cs, ∀ x ∈ xs, R h cs x → R' h cs x) : Bld ok' w R' h v xs := by
  rcases s with s | ⟨b, cs, an, e, hk, hb, hl, hi⟩
  · exact .inl s
  · exact .inr ⟨b, cs, an, e, h1 b (lt_of_get hb) hk, hb, hl, fun i x hx => hR _ _ (List.mem_of_getElem? hx) (hi i x hx)⟩
end Go.Ev
namespace Go.Proofs.Ytmenfnapbggglaa
open Go.Ev

/-- The book moved to another heap that agrees where it lies. -/
theorem book_keep {Z : Nat → Prop} {g g' : H} {bv : Value} {xs : List (Nat × Int)} (s : Bld Z 3 (KptC Z) g bv xs) (hz : g.size ≤ g'.size) (k : ∀ c, Z c → c < g.size → hget g' c = hget g c) : Bld Z 3 (KptC Z) g' bv xs := by
  have hR : ∀ cs x, KptC Z g cs x → KptC Z g' cs x := fun cs x q => KptC.imp q (fun _ _ q => q) (fun b zs hb hq => (cel_congr (k b hb (cel_lt hq))).trans hq)
  rcases s with s | ⟨b, cs, an, e, hk, hb, hl, hi⟩
  · exact .inl s
  · exact .inr ⟨b, cs, an, e, hk, (k b hk (lt_of_get hb)).trans hb, hl, fun i x hx => hR _ _ (hi i x hx)⟩

/-- One entry more. -/
theorem book_add {Z : Nat → Prop} {g : H} {bv L G : Value} {xs : List (Nat × Int)} (s : Bld Z 3 (KptC Z) g bv xs) (hl : xs.length ≤ 1000) (hZ : ∀ c, g.size ≤ c → Z c) {n : Nat} {mark : Int} (sL : SlR Z 1 IntC g L (List.replicate n mark)) (sG : SlR Z 1 IntC g G (glist n mark 64)) :
    Ans (appendTo (Ev.newRow g [L, G, .int .i64 mark] 3 []) 3 56 bv 1 [L, G, .int .i64 mark]) fun v' g' => Bld Z 3 (KptC Z) g' v' (xs ++ [(n, mark)]) ∧ g.size ≤ g'.size ∧ ∀ c, c < g.size → ¬ Z c → hget g' c = hget g c := by
  have k := rowKept g [L, G, .int .i64 mark] 3 []
  have z : (Ev.newRow g [L, G, .int .i64 mark] 3 []).size = g.size + 1 := by simp
  have s' := book_keep s k.1 (fun c _ hc => k.get hc (by simp))
  have sL' := SlI.imp sL (ok' := Z) (fun _ _ q => q) (keep_of k.c (by simp))
  have sG' := SlI.imp sG (ok' := Z) (fun _ _ q => q) (keep_of k.c (by simp))
  generalize Ev.newRow g [L, G, .int .i64 mark] 3 [] = g1 at k z s' sL' sG' ⊢
  refine (s'.app (x := (n, mark)) (bytes := 56) (new := [L, G, .int .i64 mark]) rfl (by omega) (hZ _ (by omega)) (fun h' kc cs y _ q => KptC.imp q (fun _ _ q => q) (keep_of kc (by simp))) (fun h' kc => ⟨L, G, rfl, SlI.imp sL' (fun _ _ q => q) (keep_of kc (by simp)), SlI.imp sG' (fun _ _ q => q) (keep_of kc (by simp))⟩)).mono ?_
  rintro v' g' ⟨b, kc, z5, f5, _⟩
  have := kc.1
  exact ⟨b, by omega, fun c hc hn => (f5 c (by omega) (s'.ne hn)).trans (k.get hc (by simp))⟩

/-- What was kept goes into the book. -/
theorem book_step {Z : Nat → Prop} {g g5 : H} {bv L G : Value} {xs : List (Nat × Int)} (s : Bld Z 3 (KptC Z) g bv xs) (hl : xs.length ≤ 1000) (zlt : ∀ c, Z c → c < g.size) {lo hi n : Nat} {mark : Int} (hz : ∀ c, Z c → ¬ (lo ≤ c ∧ c < hi)) (hhi : hi ≤ g.size)
    (sL : SlR (region lo hi g.size) 1 IntC g5 L (List.replicate n mark)) (sG : SlR (region lo hi g.size) 1 IntC g5 G (glist n mark 64)) (y : g.size ≤ g5.size) (f : ∀ c, c < g.size → ¬ (lo ≤ c ∧ c < hi) → hget g5 c = hget g c) :
    Ans (appendTo (Ev.newRow g5 [L, G, .int .i64 mark] 3 []) 3 56 bv 1 [L, G, .int .i64 mark]) fun bv' g7 => ∃ Z' : Nat → Prop, Bld Z' 3 (KptC Z') g7 bv' (xs ++ [(n, mark)]) ∧ g.size ≤ g7.size ∧ (∀ c, c < g.size → ¬ Z c → ¬ (lo ≤ c ∧ c < hi) → hget g7 c = hget g c) ∧ (∀ c, Z' c → c < g7.size) ∧ (∀ c, Z' c → Z c ∨ (lo ≤ c ∧ c < hi) ∨ g.size ≤ c) := by
  have s5 := book_keep s y (fun c hc hcs => f c hcs (hz c hc))
  have s6 : Bld (fun c => Z c ∨ (lo ≤ c ∧ c < hi) ∨ g.size ≤ c) 3 (KptC fun c => Z c ∨ (lo ≤ c ∧ c < hi) ∨ g.size ≤ c) g5 bv xs := s5.imp' (fun c _ q => .inl q) (fun cs x _ q => KptC.imp q (fun c _ q => .inl q) (fun _ _ _ e => e))
  have hr : ∀ c, region lo hi g.size c → Z c ∨ (lo ≤ c ∧ c < hi) ∨ g.size ≤ c := fun c q => by
    rcases q with q | q
    · exact .inr (.inl q)
    · exact .inr (.inr q)
  refine (book_add s6 hl (fun c hc => .inr (.inr (by omega))) (SlI.imp sL (fun c _ q => hr c q) (fun _ _ _ e => e)) (SlI.imp sG (fun c _ q => hr c q) (fun _ _ _ e => e))).mono ?_
  rintro bv' g7 ⟨b7, y7, f7⟩
  refine ⟨fun c => (Z c ∨ (lo ≤ c ∧ c < hi) ∨ g.size ≤ c) ∧ c < g7.size, b7.imp' (fun c hc q => ⟨q, hc⟩) (fun cs x _ q => KptC.imp q (fun c hc q => ⟨q, hc⟩) (fun _ _ _ e => e)), by omega, fun c hc n1 n2 => (f7 c (by omega) (by
    rintro (q | q | q)
    · exact n1 q
    · exact n2 q
    · omega)).trans (f c hc n2), fun c q => q.2, fun c q => q.1⟩

theorem OwnI.lt {h : H} {v : Value} {ns : List Int} {lo : Nat} (s : OwnI h v ns lo) : ∀ b o n c, v = .slice (some ⟨b, o, none⟩) n c → b < h.size := by
  rintro b o n c e
  rcases s with ⟨_, q⟩ | ⟨b', an, _, q, hg, _⟩
  · rw [q] at e; cases e
  · rw [q] at e
    injection e with e _ _
    injection e with e
    injection e with e _ _
    subst e
    exact lt_of_get hg

/-- The twins and the book. -/
structure MkS (h0 g : H) (v1 v2 : Value) (fl : Flight) (last : Int) (W1 W2 : List Nat) (Z : Nat → Prop) (bv : Value) (xs : List (Nat × Int)) : Prop where
  l1 : LS g v1 fl last false W1
  l2 : LS g v2 fl last false W2
  gd : Gd fl last
  bk : Bld Z 3 (KptC Z) g bv xs
  ww : ∀ c ∈ W1, c ∉ W2
  z1 : ∀ c ∈ W1, ¬ Z c
  z2 : ∀ c ∈ W2, ¬ Z c
  zlt : ∀ c, Z c → c < g.size

def MarkD (h : H) (W1 W2 : List Nat) (u : Value) (h' : H) : Prop := u = .bool true ∧ h.size ≤ h'.size ∧ ∀ c, c < h.size → c ∉ W1 → c ∉ W2 → hget h' c = hget h c

set_option maxHeartbeats 4000000 in
theorem marked_spec {F : Nat} (hF : 200000 ≤ F) {h : H} {ok : Nat → Prop} {v1 v2 v : Value} {W1 W2 : List Nat} (l1 : LS h v1 [] 0 false W1) (l2 : LS h v2 [] 0 false W2) (hww : ∀ c ∈ W1, c ∉ W2) {script : List Stp} (s : SlR ok 6 (StpC ok) h v script) (hok : ∀ c, ok c → c ∉ W1 ∧ c ∉ W2) :
    Ans (cf F 32 [v1, v2, v] h) (MarkD h W1 W2) := by
  generalize hQ : MarkD h W1 W2 = Q
  obtain ⟨F, rfl⟩ : ∃ G, F = G + 1 := ⟨F - 1, by omega⟩
  have hl := s.len
  rw [cf_step (a := a32) rfl rfl (by simp [a32])]
  simp (disch := first | omega | (simp only [newRow_size, Array.size_setIfInBounds, Array.size_push]; done) | (simp only [newRow_size, Array.size_setIfInBounds, Array.size_push]; omega)) [a32, r32_0, r32_1, r32_2]
  refine loop_rule (fun mm e g => ∃ (i : Nat) (fl : Flight) (last : Int) (V1 V2 : List Nat) (Z : Nat → Prop) (bv : Value) (xs : List (Nat × Int)), mm = 40 - i ∧ i ≤ 40 ∧ last ≤ 300 * i ∧ e = [(0, v1), (1, v2), (2, v), (7, bv), (8, .int .i64 i)] ∧ MkS h g v1 v2 fl last V1 V2 Z bv xs ∧ xs.length = 2 * i ∧ (∀ x ∈ xs, x.1 ≤ 100000 ∧ -1000000 ≤ x.2 ∧ x.2 ≤ 0) ∧ h.size ≤ g.size ∧ (∀ c, c < h.size → c ∉ W1 → c ∉ W2 → hget g c = hget h c) ∧ (∀ c ∈ V1, c ∈ W1 ∨ h.size ≤ c) ∧ (∀ c ∈ V2, c ∈ W2 ∨ h.size ≤ c) ∧ (∀ c, Z c → h.size ≤ c)) ?_ _ 40 _ _ (by omega) ⟨0, [], 0, W1, W2, fun _ => False, .slice none 0 0, [], by omega, by omega, by omega, rfl, ⟨l1, l2, Gd.nil, .inl ⟨rfl, rfl⟩, hww, by simp, by simp, fun c q => q.elim⟩, rfl, by simp, Nat.le_refl _, fun _ _ _ _ => rfl, fun c q => .inl q, fun c q => .inl q, fun c q => q.elim⟩
  rintro mm e g again ⟨i, fl, last, V1, V2, Z, bv, xs, rfl, hi, hlast, rfl, st, hxl, hxs, zg, fg, hV1, hV2, hZ0⟩ ih
  have hw1 : IntKind.i64.wrap ((i : Int) + 1) = ((i + 1 : Nat) : Int) := by rw [wrap_id (by omega) (by omega)]; rfl
  by_cases hlt : i < script.length ∧ i < 40
  · obtain ⟨x, hx⟩ : ∃ x, script[i]? = some x := ⟨_, List.getElem?_eq_getElem hlt.1⟩
    have keepS : ∀ g' : H, h.size ≤ g'.size → (∀ c, c < h.size → c ∉ W1 → c ∉ W2 → hget g' c = hget h c) → SlR (fun c => ok c ∧ c < h.size) 6 (StpC (fun c => ok c ∧ c < h.size)) g' v script := by
      intro g' _ hf
      have hc : ∀ b zs, (ok b) → cel h b = some zs → cel g' b = some zs := fun b zs hb hz => (cel_congr (hf b (cel_lt hz) (hok b hb).1 (hok b hb).2)).trans hz
      exact SlR.imp s (fun c hc q => ⟨q, hc⟩) (fun cs x _ q => StpC.imp q (fun c hc q => ⟨q, hc⟩) hc) hc
    have sg := keepS g zg fg
    obtain ⟨b', o, c, csx, es, lv, an, rfl, hk, hg, hle, hx5⟩ := sg.at' hx
    have hcl : ((csx.drop (o + i * 6)).take 6).length = 6 := by simp; omega
    have hgs := lt_of_get hg
    have hV1l := st.l1.lt
    have hV2l := st.l2.lt
    obtain ⟨gd', lb1, lb2⟩ := st.gd.step false x
    generalize hr : stepL false fl last x = r at gd' lb1 lb2
    obtain ⟨fl', last'⟩ := r
    simp only at gd' lb1 lb2
    simp (disch := first | omega | (simp only [newRow_size, Array.size_setIfInBounds, Array.size_push]; done) | (simp only [newRow_size, Array.size_setIfInBounds, Array.size_push]; omega)) [l32_15, r32_3, hg, hl, eqT, eqF, neT, neF, ltT, ltF, leT, leF, nltT, nltF, nleT, nleF, nneT, nneF, List.getElem?_cons_zero, List.getElem?_cons_succ, r32_4]
    have ha1 := act_spec (F := F) (by omega) st.l1 st.gd (by omega) hx5
    rw [hr] at ha1
    refine Ans.next ha1 ?_
    rintro a g1 ⟨V1', loa, la1, m1, hloa, hloas, oa, hW1⟩
    have la1 : LS g1 v1 fl' last' false V1' := la1
    have y1 := m1.1.1
    have hg1 := (m1.1.get hgs (fun q => by
      rcases hV1 _ q with r | r
      · exact (hok _ hk.1).1 r
      · have := hk.2; omega)).trans hg
    have hx6 : StpC (fun c => ok c ∧ c < h.size) g1 ((csx.drop (o + i * 6)).take 6) x := StpC.imp hx5 (fun _ _ q => q) (keep_of m1.1.c (fun c hc q => by
      rcases hV1 _ hc with r | r
      · exact (hok _ q.1).1 r
      · have := q.2; omega))
    have l2a := st.l2.kept m1.1 (fun c hc q => st.ww c q hc)
    have hi1 := hlt.1
    simp (disch := first | omega | (simp only [newRow_size, Array.size_setIfInBounds, Array.size_push]; done) | (simp only [newRow_size, Array.size_setIfInBounds, Array.size_push]; omega)) [r32_5, hg1, hi1, hle]
    have ha2 := act_spec (F := F) (by omega) l2a st.gd (by omega) hx6
    rw [hr] at ha2
    refine Ans.next ha2 ?_
    rintro b g2 ⟨V2', lob, lb2', m2, hlob, hlobs, ob, hW2⟩
    have lb2' : LS g2 v2 fl' last' false V2' := lb2'
    have y2 := m2.1.1
    have hV1' : ∀ c ∈ V1', (c ∈ V1 ∨ g.size ≤ c) ∧ c < loa := fun c hc => ⟨m1.2 c hc, hW1 c hc⟩
    have hV2' : ∀ c ∈ V2', (c ∈ V2 ∨ g1.size ≤ c) ∧ c < lob := fun c hc => ⟨m2.2 c hc, hW2 c hc⟩
    have ww' : ∀ c ∈ V1', c ∉ V2' := by
      intro c hc q
      obtain ⟨a1, a2⟩ := hV1' c hc
      obtain ⟨b1, b2⟩ := hV2' c q
      rcases b1 with b1 | b1
      · rcases a1 with a1 | a1
        · exact st.ww c a1 b1
        · have := hV2l c b1; omega
      · omega
    have la2 := la1.kept m2.1 (fun c hc q => by
      obtain ⟨a1, a2⟩ := hV1' c hc
      rcases a1 with a1 | a1
      · exact st.ww c a1 q
      · have := hV2l c q; omega)
    simp (disch := first | omega | (simp only [newRow_size, Array.size_setIfInBounds, Array.size_push]; done) | (simp only [newRow_size, Array.size_setIfInBounds, Array.size_push]; omega)) [r32_6]
    refine Ans.next (la2.numbersO (F := F) (by omega) gd'.w gd'.len (by omega)) ?_
    rintro n g3 ⟨on, k3⟩
    have y3 := k3.1
    simp (disch := first | omega | (simp only [newRow_size, Array.size_setIfInBounds, Array.size_push]; done) | (simp only [newRow_size, Array.size_setIfInBounds, Array.size_push]; omega)) [r32_7]
    refine Ans.next ((lb2'.kept k3 (by simp)).numbersO (F := F) (by omega) gd'.w gd'.len (by omega)) ?_
    rintro m g4 ⟨om, k4⟩
    have y4 := k4.1
    have oa2 : OwnI g2 a (actN fl last x) loa := oa.keep (fun c h1 h2 => m2.1.get h2 (fun q => by have := hV2l c q; omega))
    have oa4 : OwnI g4 a (actN fl last x) loa := (oa2.keep (fun c _ hc => k3.get hc (by simp))).keep (fun c _ hc => k4.get hc (by simp))
    have ob4 : OwnI g4 b (actN fl last x) lob := (ob.keep (fun c _ hc => k3.get hc (by simp))).keep (fun c _ hc => k4.get hc (by simp))
    have on4 := on.keep (fun c _ hc => k4.get hc (by simp))
    have hal : (actN fl last x).length ≤ 300 := by
      unfold actN
      split
      · rw [sendR_ns]; exact cut_le _
      · simp
    have hnl : (fl'.map (·.1)).length ≤ 256 := by simpa using gd'.len
    have i1 : cf F 27 [a, b] g4 = some (.bool true, g4) := by
      obtain ⟨r, h', e1, e2, e3⟩ := ints_same (F := F) (by omega) oa4.sl ob4.sl (by omega)
      subst e2 e3
      exact e1
    have i2 : cf F 27 [n, m] g4 = some (.bool true, g4) := by
      obtain ⟨r, h', e1, e2, e3⟩ := ints_same (F := F) (by omega) on4.sl om.sl (by omega)
      subst e2 e3
      exact e1
    have hwA : IntKind.i64.wrap (-200 * (i : Int)) = -200 * (i : Int) := wrap_id (by omega) (by omega)
    have hwB : IntKind.i64.wrap (-200 * (i : Int) - 100) = -200 * (i : Int) - 100 := wrap_id (by omega) (by omega)
    have hwC : IntKind.i64.wrap (-200 * (i : Int) - 200) = -200 * (i : Int) - 200 := wrap_id (by omega) (by omega)
    simp (disch := first | omega | (simp only [newRow_size, Array.size_setIfInBounds, Array.size_push]; done) | (simp only [newRow_size, Array.size_setIfInBounds, Array.size_push]; omega)) [r32_8, i1, i2, eqT, eqF, neT, neF, ltT, ltF, leT, leF, nltT, nltF, nleT, nleF, nneT, nneF, List.getElem?_cons_zero, List.getElem?_cons_succ, r32_10, hwA, hwB]
    -- the answer of Send, written full
    have hV1l' := la1.lt
    have hV2l' := lb2'.lt
    have bk4 := book_keep st.bk (g' := g4) (by omega) (fun c hc hcs => (k4.get (by omega) (by simp)).trans ((k3.get (by omega) (by simp)).trans ((m2.1.get (by omega) (fun q => st.z2 c q hc)).trans (m1.1.get hcs (fun q => st.z1 c q hc)))))
    have f4 : ∀ c, c < h.size → c ∉ W1 → c ∉ W2 → hget g4 c = hget h c := fun c hc n1 n2 => (k4.get (by omega) (by simp)).trans ((k3.get (by omega) (by simp)).trans ((m2.1.get (by omega) (fun q => by
      rcases hV2 c q with r | r
      · exact n2 r
      · omega)).trans ((m1.1.get (by omega) (fun q => by
      rcases hV1 c q with r | r
      · exact n1 r
      · omega)).trans (fg c hc n1 n2))))
    refine Ans.next (kept_spec (F := F) (by omega) oa4 (hi := g1.size) (fun b o n c e => oa.lt b o n c e) (by omega) (by omega) (-200 * (i : Int) - 100) (by omega)) ?_
    rintro u5 g5 ⟨L5, G5, rfl, sL5, sG5, y5, f5⟩
    have oL5 := sL5.one
    have oG5 := sG5.one
    simp only [oneCell] at oL5 oG5
    simp (disch := first | omega | (simp only [newRow_size, Array.size_setIfInBounds, Array.size_push]; done) | (simp only [newRow_size, Array.size_setIfInBounds, Array.size_push]; omega)) [oL5, oG5, srcOf]
    refine Ans.next (book_step bk4 (by omega) (fun c q => by have := st.zlt c q; omega) (fun c q hc => by have := st.zlt c q; omega) (by omega) sL5 sG5 y5 f5) ?_
    rintro bv' g7 ⟨Z1, bk7, y7, f7, z1lt, hZ1⟩
    -- the numbers, written full
    have on7 : OwnI g7 n (fl'.map (·.1)) g2.size := on4.keep (fun c h1 h2 => f7 c h2 (fun q => by have := st.zlt c q; omega) (by omega))
    simp (disch := first | omega | (simp only [newRow_size, Array.size_setIfInBounds, Array.size_push]; done) | (simp only [newRow_size, Array.size_setIfInBounds, Array.size_push]; omega)) [r32_11, hwA, hwC]
    refine Ans.next (kept_spec (F := F) (by omega) on7 (hi := g3.size) (fun b o n c e => on.lt b o n c e) (by omega) (by omega) (-200 * (i : Int) - 200) (by omega)) ?_
    rintro u8 g8 ⟨L8, G8, rfl, sL8, sG8, y8, f8⟩
    have oL8 := sL8.one
    have oG8 := sG8.one
    simp only [oneCell] at oL8 oG8
    simp (disch := first | omega | (simp only [newRow_size, Array.size_setIfInBounds, Array.size_push]; done) | (simp only [newRow_size, Array.size_setIfInBounds, Array.size_push]; omega)) [oL8, oG8, srcOf]
    refine Ans.next (book_step bk7 (by simp; omega) z1lt (fun c q hc => by
      rcases hZ1 c q with r | r | r
      · have := st.zlt c r; omega
      · omega
      · omega) (by omega) sL8 sG8 y8 f8) ?_
    rintro bv2 g10 ⟨Z2, bk10, y10, f10, z2lt, hZ2⟩
    have hxs2 : ∀ z : Nat × Int, z ∈ xs ++ [((actN fl last x).length, -200 * (i : Int) - 100)] ++ [((fl'.map (·.1)).length, -200 * (i : Int) - 200)] → z.1 ≤ 100000 ∧ -1000000 ≤ z.2 ∧ z.2 ≤ 0 := by
      intro y hy
      rw [List.mem_append, List.mem_append] at hy
      rcases hy with (hy | hy) | hy
      · exact hxs y hy
      · simp only [List.mem_singleton] at hy
        subst hy
        exact ⟨by simp only; omega, by simp only; omega, by simp only; omega⟩
      · simp only [List.mem_singleton] at hy
        subst hy
        exact ⟨by simp only; omega, by simp only; omega, by simp only; omega⟩
    simp (disch := first | omega | (simp only [newRow_size, Array.size_setIfInBounds, Array.size_push]; done) | (simp only [newRow_size, Array.size_setIfInBounds, Array.size_push]; omega)) [r32_12]
    refine Ans.next (still_spec (F := F) (by omega) bk10.sl (by simp; omega) hxs2) ?_
    rintro u g11 ⟨rfl, k11⟩
    have y11 := k11.1
    simp (disch := first | omega | (simp only [newRow_size, Array.size_setIfInBounds, Array.size_push]; done) | (simp only [newRow_size, Array.size_setIfInBounds, Array.size_push]; omega)) [eqT, eqF, neT, neF, ltT, ltF, leT, leF, nltT, nltF, nleT, nleF, nneT, nneF, List.getElem?_cons_zero, List.getElem?_cons_succ, r32_14, hw1]
    -- what lies where
    have hZ2' : ∀ c, Z2 c → Z c ∨ (loa ≤ c ∧ c < g1.size) ∨ (g2.size ≤ c ∧ c < g3.size) ∨ g4.size ≤ c := by
      intro c q
      rcases hZ2 c q with r | r | r
      · rcases hZ1 c r with r | r | r
        · exact .inl r
        · exact .inr (.inl r)
        · exact .inr (.inr (.inr r))
      · exact .inr (.inr (.inl r))
      · exact .inr (.inr (.inr (by omega)))
    have n1 : ∀ c ∈ V1', ¬ (Z c ∨ (loa ≤ c ∧ c < g1.size) ∨ (g2.size ≤ c ∧ c < g3.size) ∨ g4.size ≤ c) := by
      intro c hv q
      obtain ⟨a1, a2⟩ := hV1' c hv
      have := hV1l' c hv
      rcases q with q | q | q | q
      · rcases a1 with a1 | a1
        · exact st.z1 c a1 q
        · have := st.zlt c q; omega
      · omega
      · omega
      · omega
    have n2 : ∀ c ∈ V2', ¬ (Z c ∨ (loa ≤ c ∧ c < g1.size) ∨ (g2.size ≤ c ∧ c < g3.size) ∨ g4.size ≤ c) := by
      intro c hv q
      obtain ⟨b1, b2⟩ := hV2' c hv
      have := hV2l' c hv
      rcases q with q | q | q | q
      · rcases b1 with b1 | b1
        · exact st.z2 c b1 q
        · have := st.zlt c q; omega
      · rcases b1 with b1 | b1
        · have := hV2l c b1; omega
        · omega
      · omega
      · omega
    have f411 : ∀ c, c < g4.size → ¬ (Z c ∨ (loa ≤ c ∧ c < g1.size) ∨ (g2.size ≤ c ∧ c < g3.size) ∨ g4.size ≤ c) → hget g11 c = hget g4 c := by
      intro c hc hn
      have e1 : ¬ Z1 c := fun q => by
        rcases hZ1 c q with r | r | r
        · exact hn (.inl r)
        · exact hn (.inr (.inl r))
        · omega
      refine (k11.get (by omega) (by simp)).trans ((f10 c (by omega) e1 (fun q => hn (.inr (.inr (.inl q))))).trans (f7 c hc (fun q => hn (.inl q)) (fun q => hn (.inr (.inl q)))))
    have la4 := (la2.kept k3 (by simp)).kept k4 (by simp)
    have lb4 := (lb2'.kept k3 (by simp)).kept k4 (by simp)
    have mvL : ∀ {lv : Value} {V : List Nat}, LS g4 lv fl' last' false V → (∀ c ∈ V, ¬ (Z c ∨ (loa ≤ c ∧ c < g1.size) ∨ (g2.size ≤ c ∧ c < g3.size) ∨ g4.size ≤ c)) → LS g11 lv fl' last' false V := by
      intro lv V ls hn
      rcases ls with ⟨_, e, _⟩ | ⟨b, m, e, _, ls, rfl⟩
      · cases e
      · refine .inr ⟨b, m, e, rfl, ⟨(f411 b (lt_of_get ls.line) (hn b (by simp))).trans ls.line, ls.no, fun x hx => ⟨(ls.yes x hx).1, (f411 x (lt_of_get (ls.yes x hx).2) (hn x (by simp [hx]))).trans (ls.yes x hx).2⟩⟩, rfl⟩
    refine ih (40 - (i + 1)) _ _ (by omega) ⟨i + 1, fl', last', V1', V2', Z2, bv2, _, rfl, by omega, by push_cast; omega, rfl, ⟨mvL la4 n1, mvL lb4 n2, gd', book_keep bk10 k11.1 (fun c _ hc => k11.get hc (by simp)), ww', fun c hc q => n1 c hc (hZ2' c q), fun c hc q => n2 c hc (hZ2' c q), fun c q => by have := z2lt c q; omega⟩, by simp; omega, hxs2, by omega, ?_, ?_, ?_, ?_⟩
    · intro c hc w1 w2
      refine (f411 c (by omega) ?_).trans (f4 c hc w1 w2)
      rintro (q | q | q | q)
      · have := hZ0 c q; omega
      · omega
      · omega
      · omega
    · intro c hc
      rcases (hV1' c hc).1 with r | r
      · exact hV1 c r
      · exact .inr (by omega)
    · intro c hc
      rcases (hV2' c hc).1 with r | r
      · exact hV2 c r
      · exact .inr (by omega)
    · intro c q
      rcases hZ2' c q with r | r | r | r
      · exact hZ0 c r
      · omega
      · omega
      · omega
  · have fin : ∀ e : Env, Ans (evC F (cf F) (.seq (.region r32_16 [6]) .ret) (endK (cfX XD) [ARes.tmp 6]) noK (endK (cfX XD) [ARes.tmp 6]) e g []) Q := by
      intro e
      simp (disch := first | omega | (simp only [newRow_size, Array.size_setIfInBounds, Array.size_push]; done) | (simp only [newRow_size, Array.size_setIfInBounds, Array.size_push]; omega)) [r32_16]
      subst hQ
      exact Ans.of ⟨rfl, zg, fg⟩
    by_cases h1' : i < script.length
    · simp (disch := first | omega | (simp only [newRow_size, Array.size_setIfInBounds, Array.size_push]; done) | (simp only [newRow_size, Array.size_setIfInBounds, Array.size_push]; omega)) [l32_15, r32_3, hl, eqT, eqF, neT, neF, ltT, ltF, leT, leF, nltT, nltF, nleT, nleF, nneT, nneF, List.getElem?_cons_zero, List.getElem?_cons_succ]
      exact fin _
    · simp (disch := first | omega | (simp only [newRow_size, Array.size_setIfInBounds, Array.size_push]; done) | (simp only [newRow_size, Array.size_setIfInBounds, Array.size_push]; omega)) [l32_15, r32_3, hl, eqT, eqF, neT, neF, ltT, ltF, leT, leF, nltT, nltF, nleT, nleF, nneT, nneF, List.getElem?_cons_zero, List.getElem?_cons_succ]
      exact fin _

end Go.Proofs.Ytmenfnapbggglaa

/- LineOwn: held: all lists are left as they are; the state. -/
set_option linter.unusedSimpArgs false
set_option linter.unusedVariables false
namespace Go.Proofs.Ytmenfnapbggglaa
open Go.Ev

def ValC (h : H) (cs : List Value) (v : Value) : Prop := cs = [v]

/-- A list that was answered: it, its copy, what it says, where it lies. -/
structure HE where
  v : Value
  w : Value
  ns : List Int
  lo : Nat
  hi : Nat

structure HdS (s0 : Nat) (g : H) (lv : Value) (fl : Flight) (last : Int) (W : List Nat) (Z ZA ZW : Nat → Prop) (av wv : Value) (T : List HE) : Prop where
  ls : LS g lv fl last false W
  gd : Gd fl last
  ba : Bld ZA 1 ValC g av (T.map (·.v))
  bw : Bld ZW 1 ValC g wv (T.map (·.w))
  za : ∀ c, ZA c → Z c
  zb : ∀ c, ZW c → Z c
  zd : ∀ c, ZA c → ¬ ZW c
  own : ∀ x ∈ T, OwnI g x.v x.ns x.lo ∧ ∀ b o n c, x.v = .slice (some ⟨b, o, none⟩) n c → b < x.hi
  cop : ∀ x ∈ T, SlR Z 1 IntC g x.w x.ns
  rng : ∀ x ∈ T, s0 ≤ x.lo ∧ x.lo ≤ x.hi ∧ x.hi ≤ g.size ∧ x.ns.length ≤ 300
  dis : T.Pairwise fun x y => x.hi ≤ y.lo
  zr : ∀ c, Z c → ∀ x ∈ T, ¬ (x.lo ≤ c ∧ c < x.hi)
  zw : ∀ c ∈ W, ¬ Z c
  wr : ∀ c ∈ W, ∀ x ∈ T, ¬ (x.lo ≤ c ∧ c < x.hi)
  zlt : ∀ c, Z c → s0 ≤ c ∧ c < g.size

section
variable {s0 : Nat} {g g' : H} {lv : Value} {fl : Flight} {last : Int} {W : List Nat} {Z ZA ZW : Nat → Prop} {av wv : Value} {T : List HE}

theorem OwnI.keep2 {h h' : H} {v : Value} {ns : List Int} {lo hi : Nat} (s : OwnI h v ns lo) (hb : ∀ b o n c, v = .slice (some ⟨b, o, none⟩) n c → b < hi) (k : ∀ c, lo ≤ c → c < hi → c < h.size → hget h' c = hget h c) : OwnI h' v ns lo := by
  rcases s with s | ⟨b, an, hne, e, hg, hl, ha⟩
  · exact .inl s
  · exact .inr ⟨b, an, hne, e, (k b hl (hb b _ _ _ e) (lt_of_get hg)).trans hg, hl, ha⟩

/-- The line goes on. -/
theorem HdS.move (s : HdS s0 g lv fl last W Z ZA ZW av wv T) (z : g.size ≤ g'.size) (k : ∀ c, c < g.size → c ∉ W → hget g' c = hget g c) {fl' : Flight} {last' : Int} {W' : List Nat} (ls' : LS g' lv fl' last' false W') (gd' : Gd fl' last') (hW' : ∀ c ∈ W', c ∈ W ∨ g.size ≤ c) : HdS s0 g' lv fl' last' W' Z ZA ZW av wv T := by
  have kz : ∀ c, Z c → hget g' c = hget g c := fun c hc => k c (s.zlt c hc).2 (fun q => s.zw c q hc)
  have kv : ∀ {Y : Nat → Prop} {v : Value} {xs : List Value}, (∀ c, Y c → Z c) → Bld Y 1 ValC g v xs → Bld Y 1 ValC g' v xs := by
    intro Y v xs hY b
    rcases b with b | ⟨b, cs, an, e, hk, hb, hl, hi⟩
    · exact .inl b
    · exact .inr ⟨b, cs, an, e, hk, (kz b (hY b hk)).trans hb, hl, hi⟩
  refine ⟨ls', gd', kv s.za s.ba, kv s.zb s.bw, s.za, s.zb, s.zd, ?_, ?_, fun x hx => ⟨(s.rng x hx).1, (s.rng x hx).2.1, by have := (s.rng x hx).2.2.1; omega, (s.rng x hx).2.2.2⟩, s.dis, s.zr, ?_, ?_, fun c hc => ⟨(s.zlt c hc).1, by have := (s.zlt c hc).2; omega⟩⟩
  · intro x hx
    exact ⟨(s.own x hx).1.keep2 (s.own x hx).2 (fun c h1 h2 h3 => k c h3 (fun q => s.wr c q x hx ⟨h1, h2⟩)), (s.own x hx).2⟩
  · intro x hx
    exact SlI.imp (s.cop x hx) (fun _ _ q => q) (fun b zs hb hz => (cel_congr (kz b hb)).trans hz)
  · intro c hc q
    rcases hW' c hc with r | r
    · exact s.zw c r q
    · have := (s.zlt c q).2; omega
  · intro c hc x hx q
    rcases hW' c hc with r | r
    · exact s.wr c r x hx q
    · have := (s.rng x hx).2.2.1; omega

/-- New entries. -/
theorem HdS.grow (s : HdS s0 g lv fl last W Z ZA ZW av wv T) {N : List HE} (hs0 : s0 ≤ g.size) (own : ∀ x ∈ N, OwnI g x.v x.ns x.lo ∧ ∀ b o n c, x.v = .slice (some ⟨b, o, none⟩) n c → b < x.hi) (rng : ∀ x ∈ N, s0 ≤ x.lo ∧ x.lo ≤ x.hi ∧ x.hi ≤ g.size ∧ x.ns.length ≤ 300) (dis : N.Pairwise fun x y => x.hi ≤ y.lo) (tn : ∀ x ∈ T, ∀ y ∈ N, x.hi ≤ y.lo)
    (zr : ∀ c, Z c → ∀ x ∈ N, ¬ (x.lo ≤ c ∧ c < x.hi)) (wr : ∀ c ∈ W, ∀ x ∈ N, ¬ (x.lo ≤ c ∧ c < x.hi)) {av' wv' : Value} {gm : Nat} (hgm : g.size ≤ gm) (ba : Bld (fun c => ZA c ∨ (g.size ≤ c ∧ c < gm)) 1 ValC g' av' ((T ++ N).map (·.v))) (bw : Bld (fun c => ZW c ∨ gm ≤ c) 1 ValC g' wv' ((T ++ N).map (·.w)))
    (cop : ∀ x ∈ N, SlR (fun c => Z c ∨ g.size ≤ c) 1 IntC g' x.w x.ns) (kc : KeptC g g' []) (fr : ∀ c, c < g.size → ¬ Z c → hget g' c = hget g c) : ∃ Z' ZA' ZW', HdS s0 g' lv fl last W Z' ZA' ZW' av' wv' (T ++ N) := by
  have y := kc.1
  have hWl := s.ls.lt
  have hTN : ∀ x ∈ T ++ N, s0 ≤ x.lo ∧ x.lo ≤ x.hi ∧ x.hi ≤ g.size ∧ x.ns.length ≤ 300 := by
    intro x hx
    rcases List.mem_append.1 hx with hx | hx
    · exact s.rng x hx
    · exact rng x hx
  have ls' : LS g' lv fl last false W := by
    rcases s.ls with ⟨_, e, _⟩ | ⟨b, m, e, _, ls, rfl⟩
    · cases e
    · exact .inr ⟨b, m, e, rfl, ⟨(fr b (lt_of_get ls.line) (s.zw b (by simp))).trans ls.line, ls.no, fun x hx => ⟨(ls.yes x hx).1, (fr x (lt_of_get (ls.yes x hx).2) (s.zw x (by simp [hx]))).trans (ls.yes x hx).2⟩⟩, rfl⟩
  have hzt : ∀ c, Z c → c < g.size := fun c q => (s.zlt c q).2
  refine ⟨fun c => (Z c ∨ g.size ≤ c) ∧ c < g'.size, fun c => (ZA c ∨ (g.size ≤ c ∧ c < gm)) ∧ c < g'.size, fun c => (ZW c ∨ gm ≤ c) ∧ c < g'.size, ls', s.gd, ba.imp' (fun c hc q => ⟨q, hc⟩) (fun _ _ _ q => q), bw.imp' (fun c hc q => ⟨q, hc⟩) (fun _ _ _ q => q), ?_, ?_, ?_, ?_, ?_, fun x hx => ⟨(hTN x hx).1, (hTN x hx).2.1, by have := (hTN x hx).2.2.1; omega, (hTN x hx).2.2.2⟩, ?_, ?_, ?_, ?_, ?_⟩
  · rintro c ⟨q | q, h2⟩
    · exact ⟨.inl (s.za c q), h2⟩
    · exact ⟨.inr q.1, h2⟩
  · rintro c ⟨q | q, h2⟩
    · exact ⟨.inl (s.zb c q), h2⟩
    · exact ⟨.inr (by omega), h2⟩
  · rintro c ⟨q | q, _⟩ ⟨r | r, _⟩
    · exact s.zd c q r
    · have := hzt c (s.za c q); omega
    · have := hzt c (s.zb c r); omega
    · omega
  · intro x hx
    rcases List.mem_append.1 hx with hx | hx
    · exact ⟨(s.own x hx).1.keep2 (s.own x hx).2 (fun c h1 h2 h3 => fr c h3 (fun q => s.zr c q x hx ⟨h1, h2⟩)), (s.own x hx).2⟩
    · exact ⟨(own x hx).1.keep2 (own x hx).2 (fun c h1 h2 h3 => fr c h3 (fun q => zr c q x hx ⟨h1, h2⟩)), (own x hx).2⟩
  · intro x hx
    rcases List.mem_append.1 hx with hx | hx
    · exact SlI.imp (s.cop x hx) (fun c hc q => ⟨.inl q, by omega⟩) (keep_of kc (by simp))
    · exact SlI.imp (cop x hx) (fun c hc q => ⟨q, hc⟩) (fun _ _ _ e => e)
  · rw [List.pairwise_append]
    exact ⟨s.dis, dis, tn⟩
  · intro c q x hx hr
    have := (hTN x hx).2.2.1
    rcases q.1 with q | q
    · rcases List.mem_append.1 hx with hx | hx
      · exact s.zr c q x hx hr
      · exact zr c q x hx hr
    · omega
  · intro c hc q
    rcases q.1 with q | q
    · exact s.zw c hc q
    · have := hWl c hc; omega
  · intro c hc x hx
    rcases List.mem_append.1 hx with hx | hx
    · exact s.wr c hc x hx
    · exact wr c hc x hx
  · intro c q
    refine ⟨?_, q.2⟩
    rcases q.1 with q | q
    · exact (s.zlt c q).1
    · omega

end

end Go.Proofs.Ytmenfnapbggglaa

/- LineOwn: held: the lists gathered. -/
set_option linter.unusedSimpArgs false
set_option linter.unusedVariables false
namespace Go.Proofs.Ytmenfnapbggglaa
open Go.Ev

theorem val_app {ok : Nat → Prop} {g : H} {v : Value} {xs ys : List Value} (s : Bld ok 1 ValC g v xs) (hok : ∀ c, g.size ≤ c → ok c) (hl : xs.length + ys.length ≤ 1000) :
    Ans (appendTo (Ev.newRow g ys 1 []) 1 24 v ys.length ys) fun v' g' => Bld ok 1 ValC g' v' (xs ++ ys) ∧ KeptC g g' [] ∧ ∀ c, c < g.size → ¬ ok c → hget g' c = hget g c := by
  have k := rowKept g ys 1 []
  have z : (Ev.newRow g ys 1 []).size = g.size + 1 := by simp
  have s' : Bld ok 1 ValC (Ev.newRow g ys 1 []) v xs := s.frame k (fun _ _ q => q)
  generalize hG : Ev.newRow g ys 1 [] = g1 at k z s' ⊢
  refine (s'.appN (ys := ys) (bytes := 24) (new := ys) (by omega) (by omega) (hok _ (by omega)) (fun _ _ _ _ _ q => q) ?_).mono ?_
  · intro h' _ i y hy
    show (ys.drop (i * 1)).take 1 = [y]
    rw [Nat.mul_one, List.take_one, List.head?_drop, hy]; rfl
  · rintro v' g' ⟨b, kc, _, f5, _⟩
    exact ⟨b, k.c.trans kc, fun c hc hn => (f5 c (by omega) (s'.ne hn)).trans (k.get hc (by simp))⟩

theorem val_keep {ok : Nat → Prop} {g g' : H} {v : Value} {xs : List Value} (s : Bld ok 1 ValC g v xs) (k : ∀ c, ok c → c < g.size → hget g' c = hget g c) : Bld ok 1 ValC g' v xs := by
  rcases s with b | ⟨b, cs, an, e, hk, hb, hl, hi⟩
  · exact .inl b
  · exact .inr ⟨b, cs, an, e, hk, (k b hk (lt_of_get hb)).trans hb, hl, hi⟩

def hd1 : ACode := (.seq (.region r33_3 [0, 1, 5, 6, 7]) (.block 0 (.loop [0, 1, 5, 6, 7] l33_11)))
def hd2 : ACode := (.seq (.region r33_12 [0, 5, 6, 11]) (.block 2 (.loop [0, 5, 6, 11] l33_19)))
def hd3 : ACode := (.seq (.region r33_20 [5, 6, 13]) (.block 4 (.loop [5, 6, 13] l33_25)))
def hd4 : ACode := (.seq (.region r33_27 [5, 14, 15]) (.block 6 (.loop [5, 14, 15] l33_31)))
theorem a33_cut : a33.body = (.seq (.region r33_0 [0, 1]) (.seq (.region r33_1 [0, 1, 5]) (.seq (.region r33_2 [0, 1, 5, 6]) (.seq hd1 (.seq hd2 (.seq hd3 (.seq (.region r33_26 [5, 14]) (.seq hd4 (.seq (.region r33_32 [4]) .ret))))))))) := rfl

set_option maxHeartbeats 4000000 in
theorem hd1_spec {F : Nat} (hF : 200000 ≤ F) {ok : Nat → Prop} {h : H} {lv v : Value} {W : List Nat} (ls : LS h lv [] 0 false W) {script : List Stp} (s : SlR ok 6 (StpC ok) h v script) (hok : ∀ c, ok c → c ∉ W)
    {kn kr : K} {ke : Nat → K} {Q : Value → H → Prop}
    (hk : ∀ g fl last W' Z ZA ZW av wv T (e : Env), HdS h.size g lv fl last W' Z ZA ZW av wv T → T.length ≤ 120 → last ≤ 12000 → h.size ≤ g.size → Ans (kn ((0, lv) :: (1, v) :: (5, av) :: (6, wv) :: e) g []) Q) :
    Ans (evC F (cf F) hd1 kn ke kr [(0, lv), (1, v), (5, .slice none 0 0), (6, .slice none 0 0)] h []) Q := by
  have hl := s.len
  simp (disch := first | omega | (simp only [newRow_size, Array.size_setIfInBounds, Array.size_push]; done) | (simp only [newRow_size, Array.size_setIfInBounds, Array.size_push]; omega)) [hd1, r33_3]
  refine loop_rule (fun mm e g => ∃ (i : Nat) (fl : Flight) (last : Int) (W' : List Nat) (Z ZA ZW : Nat → Prop) (av wv : Value) (T : List HE), mm = 40 - i ∧ i ≤ 40 ∧ last ≤ 300 * i ∧ e = [(0, lv), (1, v), (5, av), (6, wv), (7, .int .i64 i)] ∧ HdS h.size g lv fl last W' Z ZA ZW av wv T ∧ T.length = 3 * i ∧ h.size ≤ g.size ∧ (∀ c, c < h.size → c ∉ W → hget g c = hget h c) ∧ (∀ c ∈ W', c ∈ W ∨ h.size ≤ c)) ?_ _ 40 _ _ (by omega) ⟨0, [], 0, W, fun _ => False, fun _ => False, fun _ => False, .slice none 0 0, .slice none 0 0, [], by omega, by omega, by omega, rfl, ⟨ls, Gd.nil, .inl ⟨rfl, rfl⟩, .inl ⟨rfl, rfl⟩, fun _ q => q, fun _ q => q, fun _ q => q.elim, by simp, by simp, by simp, .nil, by simp, by simp, by simp, fun c q => q.elim⟩, rfl, Nat.le_refl _, fun _ _ _ => rfl, fun c q => .inl q⟩
  rintro mm e g again ⟨i, fl, last, W', Z, ZA, ZW, av, wv, T, rfl, hi, hlast, rfl, st, hTl, zg, fg, hW'⟩ ih
  have hw1 : IntKind.i64.wrap ((i : Int) + 1) = ((i + 1 : Nat) : Int) := by rw [wrap_id (by omega) (by omega)]; rfl
  by_cases hlt : i < script.length ∧ i < 40
  · obtain ⟨x, hx⟩ : ∃ x, script[i]? = some x := ⟨_, List.getElem?_eq_getElem hlt.1⟩
    have hc : ∀ b zs, (ok b) → cel h b = some zs → cel g b = some zs := fun b zs hb hz => (cel_congr (fg b (cel_lt hz) (hok b hb))).trans hz
    have sg : SlR (fun c => ok c ∧ c < h.size) 6 (StpC (fun c => ok c ∧ c < h.size)) g v script := SlR.imp s (fun c hc q => ⟨q, hc⟩) (fun cs x _ q => StpC.imp q (fun c hc q => ⟨q, hc⟩) hc) hc
    obtain ⟨b', o, c, csx, es, lvv, an, rfl, hkk, hg, hle, hx5⟩ := sg.at' hx
    have hcl : ((csx.drop (o + i * 6)).take 6).length = 6 := by simp; omega
    have hgs := lt_of_get hg
    have hi1 := hlt.1
    obtain ⟨gd', lb1, lb2⟩ := st.gd.step false x
    have hal : (actN fl last x).length ≤ 300 := by
      unfold actN
      split
      · rw [sendR_ns]; exact cut_le _
      · simp
    have ha1 := act_spec (F := F) (by omega) st.ls st.gd (by omega) hx5
    generalize hr : stepL false fl last x = r at gd' lb1 lb2 ha1
    obtain ⟨fl', last'⟩ := r
    simp only at gd' lb1 lb2
    simp (disch := first | omega | (simp only [newRow_size, Array.size_setIfInBounds, Array.size_push]; done) | (simp only [newRow_size, Array.size_setIfInBounds, Array.size_push]; omega)) [l33_11, r33_4, hg, hl, eqT, eqF, neT, neF, ltT, ltF, leT, leF, nltT, nltF, nleT, nleF, nneT, nneF, List.getElem?_cons_zero, List.getElem?_cons_succ, r33_5]
    refine Ans.next ha1 ?_
    rintro a g1 ⟨W1, loa, la1, m1, hloa, hloas, oa, hW1⟩
    have la1 : LS g1 lv fl' last' false W1 := la1
    have y1 := m1.1.1
    have hnl : (fl'.map (·.1)).length ≤ 300 := by have := gd'.len; simp; omega
    have st1 := st.move y1 (fun c hc hn => m1.1.get hc hn) la1 gd' m1.2
    simp (disch := first | omega | (simp only [newRow_size, Array.size_setIfInBounds, Array.size_push]; done) | (simp only [newRow_size, Array.size_setIfInBounds, Array.size_push]; omega)) [r33_6]
    refine Ans.next (la1.numbersO (F := F) (by omega) gd'.w gd'.len (by omega)) ?_
    rintro n g2 ⟨on, k2⟩
    have y2 := k2.1
    have la2 := la1.kept k2 (by simp)
    simp (disch := first | omega | (simp only [newRow_size, Array.size_setIfInBounds, Array.size_push]; done) | (simp only [newRow_size, Array.size_setIfInBounds, Array.size_push]; omega)) [r33_7]
    refine Ans.next (la2.numbersO (F := F) (by omega) gd'.w gd'.len (by omega)) ?_
    rintro m g3 ⟨om, k3⟩
    have y3 := k3.1
    have la3 := la2.kept k3 (by simp)
    have st3 := (st1.move y2 (fun c hc _ => k2.get hc (by simp)) la2 gd' (fun c q => .inl q)).move y3 (fun c hc _ => k3.get hc (by simp)) la3 gd' (fun c q => .inl q)
    have oa3 : OwnI g3 a (actN fl last x) loa := (oa.keep (fun c _ hc => k2.get hc (by simp))).keep (fun c _ hc => k3.get hc (by simp))
    have on3 := on.keep (fun c _ hc => k3.get hc (by simp))
    have va := oa3.sl.vc
    have vn := on3.sl.vc
    have vm := om.sl.vc
    have o1 := oa3.sl.one
    have o2 := on3.sl.one
    have o3 := om.sl.one
    simp only [vcells] at va vn vm
    simp only [oneCell] at o1 o2 o3
    simp (disch := first | omega | (simp only [newRow_size, Array.size_setIfInBounds, Array.size_push]; done) | (simp only [newRow_size, Array.size_setIfInBounds, Array.size_push]; omega)) [r33_8, va, vn, vm, srcOf, o1, o2, o3]
    have ba3 : Bld (fun c => ZA c ∨ g3.size ≤ c) 1 ValC g3 av (T.map (·.v)) := st3.ba.imp' (fun c _ q => .inl q) (fun _ _ _ q => q)
    refine Ans.next (val_app (ys := [a, n, m]) ba3 (fun c hc => .inr hc) (by simp; omega)) ?_
    rintro av' g4 ⟨ba4, kc4, f4⟩
    have y4 := kc4.1
    have sa4 := SlI.imp oa3.sl (ok' := fun c => loa ≤ c ∧ c < g3.size) (fun _ _ q => q) (keep_of kc4 (by simp))
    have sn4 := SlI.imp on3.sl (ok' := fun c => g1.size ≤ c ∧ c < g3.size) (fun _ _ q => q) (keep_of kc4 (by simp))
    have sm4 := SlI.imp om.sl (ok' := fun c => g2.size ≤ c ∧ c < g3.size) (fun _ _ q => q) (keep_of kc4 (by simp))
    simp (disch := first | omega | (simp only [newRow_size, Array.size_setIfInBounds, Array.size_push]; done) | (simp only [newRow_size, Array.size_setIfInBounds, Array.size_push]; omega)) [r33_9]
    refine Ans.next (copied_spec (F := F) (by omega) sa4 (by omega)) ?_
    rintro wa g5 ⟨ca5, k5⟩
    have y5 := k5.1
    simp (disch := first | omega | (simp only [newRow_size, Array.size_setIfInBounds, Array.size_push]; done) | (simp only [newRow_size, Array.size_setIfInBounds, Array.size_push]; omega)) []
    refine Ans.next (copied_spec (F := F) (by omega) (SlI.imp sn4 (ok' := fun c => g1.size ≤ c ∧ c < g3.size) (fun _ _ q => q) (keep_of k5.c (by simp))) (by omega)) ?_
    rintro wn g6 ⟨cn6, k6⟩
    have y6 := k6.1
    simp (disch := first | omega | (simp only [newRow_size, Array.size_setIfInBounds, Array.size_push]; done) | (simp only [newRow_size, Array.size_setIfInBounds, Array.size_push]; omega)) []
    refine Ans.next (copied_spec (F := F) (by omega) (SlI.imp sm4 (ok' := fun c => g2.size ≤ c ∧ c < g3.size) (fun _ _ q => q) (keep_of (k5.trans k6).c (by simp))) (by omega)) ?_
    rintro wm g7 ⟨cm7, k7⟩
    have y7 := k7.1
    have vwa := ca5.vc
    have vwn := cn6.vc
    have vwm := cm7.vc
    have p1 := ca5.one
    have p2 := cn6.one
    have p3 := cm7.one
    simp only [vcells] at vwa vwn vwm
    simp only [oneCell] at p1 p2 p3
    simp (disch := first | omega | (simp only [newRow_size, Array.size_setIfInBounds, Array.size_push]; done) | (simp only [newRow_size, Array.size_setIfInBounds, Array.size_push]; omega)) [vwa, vwn, vwm, srcOf, p1, p2, p3]
    have k57 := (k5.trans k6).trans k7
    have bw7 : Bld (fun c => ZW c ∨ g4.size ≤ c) 1 ValC g7 wv (T.map (·.w)) := by
      have b1 := val_keep st3.bw (g' := g4) (fun c hc hcs => f4 c hcs (by
        rintro (q | q)
        · exact st3.zd c q hc
        · omega))
      have b2 := val_keep b1 (g' := g7) (fun c hc hcs => k57.get hcs (by simp))
      exact b2.imp' (fun c _ q => .inl q) (fun _ _ _ q => q)
    refine Ans.next (val_app (ys := [wa, wn, wm]) bw7 (fun c hc => .inr (by omega)) (by simp; omega)) ?_
    rintro wv' g8 ⟨bw8, kc8, f8⟩
    have y8 := kc8.1
    simp (disch := first | omega | (simp only [newRow_size, Array.size_setIfInBounds, Array.size_push]; done) | (simp only [newRow_size, Array.size_setIfInBounds, Array.size_push]; omega)) [r33_10, hw1]
    have ba8 : Bld (fun c => ZA c ∨ (g3.size ≤ c ∧ c < g4.size)) 1 ValC g8 av' ((T ++ [HE.mk a wa (actN fl last x) loa g1.size, HE.mk n wn (fl'.map (·.1)) g1.size g2.size, HE.mk m wm (fl'.map (·.1)) g2.size g3.size]).map (·.v)) := by
      have b1 : Bld (fun c => ZA c ∨ (g3.size ≤ c ∧ c < g4.size)) 1 ValC g4 av' (T.map (·.v) ++ [a, n, m]) := ba4.imp' (fun c hc q => by
        rcases q with q | q
        · exact .inl q
        · exact .inr ⟨q, hc⟩) (fun _ _ _ q => q)
      have b2 := val_keep b1 (g' := g7) (fun c hc hcs => k57.get hcs (by simp))
      have b3 := val_keep b2 (g' := g8) (fun c hc hcs => f8 c hcs (by
        rintro (q | q)
        · rcases hc with r | r
          · exact st3.zd c r q
          · have := (st3.zlt c (st3.zb c q)).2; omega
        · rcases hc with r | r
          · have := (st3.zlt c (st3.za c r)).2; omega
          · omega))
      simpa using b3
    have fr8 : ∀ c, c < g3.size → ¬ Z c → hget g8 c = hget g3 c := fun c hc hn => (f8 c (by omega) (by
      rintro (q | q)
      · exact hn (st3.zb c q)
      · omega)).trans ((k57.get (by omega) (by simp)).trans (f4 c hc (by
      rintro (q | q)
      · exact hn (st3.za c q)
      · omega)))
    have hW1l := la1.lt
    have hgrow : ∃ Z' ZA' ZW', HdS h.size g8 lv fl' last' W1 Z' ZA' ZW' av' wv' (T ++ [HE.mk a wa (actN fl last x) loa g1.size, HE.mk n wn (fl'.map (·.1)) g1.size g2.size, HE.mk m wm (fl'.map (·.1)) g2.size g3.size]) := by
      refine st3.grow (gm := g4.size) (by omega) ?_ ?_ ?_ ?_ ?_ ?_ y4 ba8 (by simpa using bw8) ?_ ((kc4.trans k57.c).trans kc8) fr8
      · intro y hy
        simp only [List.mem_cons, List.not_mem_nil, or_false] at hy
        rcases hy with rfl | rfl | rfl
        · exact ⟨oa3, fun b o n c e => oa.lt b o n c e⟩
        · exact ⟨on3, fun b o n c e => on.lt b o n c e⟩
        · exact ⟨om, fun b o n c e => om.lt b o n c e⟩
      · intro y hy
        simp only [List.mem_cons, List.not_mem_nil, or_false] at hy
        rcases hy with rfl | rfl | rfl
        · exact ⟨by simp only; omega, by simp only; omega, by simp only; omega, hal⟩
        · exact ⟨by simp only; omega, by simp only; omega, by simp only; omega, hnl⟩
        · exact ⟨by simp only; omega, by simp only; omega, by simp only; omega, hnl⟩
      · simp only [List.pairwise_cons, List.mem_cons, List.not_mem_nil, or_false, forall_eq_or_imp, forall_eq, List.Pairwise.nil, and_true, false_imp_iff, implies_true]
        omega
      · intro y hy z hz
        have hh := (st.rng y hy).2.2.1
        simp only [List.mem_cons, List.not_mem_nil, or_false] at hz
        rcases hz with rfl | rfl | rfl <;> (simp only; omega)
      · intro c q y hy hr
        have hh := (st.zlt c q).2
        simp only [List.mem_cons, List.not_mem_nil, or_false] at hy
        rcases hy with rfl | rfl | rfl <;> (simp only at hr; omega)
      · intro c hc y hy hr
        have h1 := hW1 c hc
        simp only [List.mem_cons, List.not_mem_nil, or_false] at hy
        rcases hy with rfl | rfl | rfl <;> (simp only at hr; omega)
      · intro y hy
        simp only [List.mem_cons, List.not_mem_nil, or_false] at hy
        rcases hy with rfl | rfl | rfl
        · exact SlI.imp ca5 (fun c _ q => .inr (by omega)) (keep_of ((k6.trans k7).c.trans kc8) (by simp))
        · exact SlI.imp cn6 (fun c _ q => .inr (by omega)) (keep_of (k7.c.trans kc8) (by simp))
        · exact SlI.imp cm7 (fun c _ q => .inr (by omega)) (keep_of kc8 (by simp))
    obtain ⟨Z', ZA', ZW', st8⟩ := hgrow
    refine ih (40 - (i + 1)) _ _ (by omega) ⟨i + 1, fl', last', W1, Z', ZA', ZW', av', wv', _, rfl, by omega, by push_cast; omega, rfl, st8, by simp; omega, by omega, ?_, ?_⟩
    · intro c hc hn
      refine (fr8 c (by omega) (fun q => by have := (st.zlt c q).1; omega)).trans ((k3.get (by omega) (by simp)).trans ((k2.get (by omega) (by simp)).trans ((m1.1.get (by omega) (fun q => ?_)).trans (fg c hc hn))))
      rcases hW' c q with r | r
      · exact hn r
      · omega
    · intro c hc
      rcases m1.2 c hc with r | r
      · exact hW' c r
      · exact .inr (by omega)
  · have : ∀ e : Env, Ans (kn ((0, lv) :: (1, v) :: (5, av) :: (6, wv) :: (7, .int .i64 i) :: e) g []) Q := fun e => hk g fl last W' Z ZA ZW av wv T _ st (by omega) (by omega) zg
    by_cases h1' : i < script.length
    · simp (disch := first | omega | (simp only [newRow_size, Array.size_setIfInBounds, Array.size_push]; done) | (simp only [newRow_size, Array.size_setIfInBounds, Array.size_push]; omega)) [l33_11, r33_4, hl, eqT, eqF, neT, neF, ltT, ltF, leT, leF, nltT, nltF, nleT, nleF, nneT, nneF, List.getElem?_cons_zero, List.getElem?_cons_succ]
      exact this _
    · simp (disch := first | omega | (simp only [newRow_size, Array.size_setIfInBounds, Array.size_push]; done) | (simp only [newRow_size, Array.size_setIfInBounds, Array.size_push]; omega)) [l33_11, r33_4, hl, eqT, eqF, neT, neF, ltT, ltF, leT, leF, nltT, nltF, nleT, nleF, nneT, nneF, List.getElem?_cons_zero, List.getElem?_cons_succ]
      exact this _

end Go.Proofs.Ytmenfnapbggglaa

/- LineOwn: held: three takes more; the comparison. -/
set_option linter.unusedSimpArgs false
set_option linter.unusedVariables false
namespace Go.Proofs.Ytmenfnapbggglaa
open Go.Ev

set_option maxHeartbeats 4000000 in
theorem hd2_spec {F : Nat} (hF : 200000 ≤ F) {s0 : Nat} {h : H} {lv v : Value} {fl : Flight} {last : Int} {W : List Nat} {Z ZA ZW : Nat → Prop} {av wv : Value} {T : List HE} (st0 : HdS s0 h lv fl last W Z ZA ZW av wv T) (hs0 : s0 ≤ h.size) (hT : T.length ≤ 120) (hlast : last ≤ 12000) {r : Env}
    {kn kr : K} {ke : Nat → K} {Q : Value → H → Prop}
    (hk : ∀ g fl last W' Z ZA ZW av wv T (e : Env), HdS s0 g lv fl last W' Z ZA ZW av wv T → T.length ≤ 123 → Ans (kn ((0, lv) :: (5, av) :: (6, wv) :: e) g []) Q) :
    Ans (evC F (cf F) hd2 kn ke kr ((0, lv) :: (1, v) :: (5, av) :: (6, wv) :: r) h []) Q := by
  simp (disch := first | omega | (simp only [newRow_size, Array.size_setIfInBounds, Array.size_push]; done) | (simp only [newRow_size, Array.size_setIfInBounds, Array.size_push]; omega)) [hd2, r33_12]
  refine loop_rule (fun mm e g => ∃ (i : Nat) (fl : Flight) (last : Int) (W' : List Nat) (Z ZA ZW : Nat → Prop) (av wv : Value) (T : List HE), mm = 3 - i ∧ i ≤ 3 ∧ last ≤ 12000 + 300 * i ∧ e = [(0, lv), (5, av), (6, wv), (11, .int .i64 i)] ∧ HdS s0 g lv fl last W' Z ZA ZW av wv T ∧ T.length ≤ 120 + i ∧ s0 ≤ g.size) ?_ _ 3 _ _ (by omega) ⟨0, fl, last, W, Z, ZA, ZW, av, wv, T, by omega, by omega, by omega, rfl, st0, by omega, hs0⟩
  clear st0 hT hlast
  rintro mm e g again ⟨i, fl, last, W', Z, ZA, ZW, av, wv, T, rfl, hi, hlast, rfl, st, hTl, zg⟩ ih
  have hw1 : IntKind.i64.wrap ((i : Int) + 1) = ((i + 1 : Nat) : Int) := by rw [wrap_id (by omega) (by omega)]; rfl
  by_cases hlt : i < 3
  · have hic : (i : Int) < 3 := by omega
    have hx5 : StpC (fun _ => True) g [.int .i64 2, .int .i64 0, .slice none 0 0, .int .i64 ((i + 1 : Nat) : Int), .int .i64 0, .int .i64 0] ⟨2, 0, [], ((i + 1 : Nat) : Int), 0, 0⟩ := ⟨_, rfl, .inl ⟨.inl rfl, rfl⟩⟩
    obtain ⟨gd', lb1, lb2⟩ := st.gd.step false ⟨2, 0, [], ((i + 1 : Nat) : Int), 0, 0⟩
    have ha1 := act_spec (F := F) (by omega) st.ls st.gd (by omega) hx5
    generalize hr : stepL false fl last ⟨2, 0, [], ((i + 1 : Nat) : Int), 0, 0⟩ = r at gd' lb1 lb2 ha1
    obtain ⟨fl', last'⟩ := r
    simp only at gd' lb1 lb2
    simp (disch := first | omega | (simp only [newRow_size, Array.size_setIfInBounds, Array.size_push]; done) | (simp only [newRow_size, Array.size_setIfInBounds, Array.size_push]; omega)) [l33_19, r33_13, hic, eqT, eqF, neT, neF, ltT, ltF, leT, leF, nltT, nltF, nleT, nleF, nneT, nneF, List.getElem?_cons_zero, List.getElem?_cons_succ, r33_14, hw1]
    refine Ans.next ha1 ?_
    rintro a g1 ⟨W1, loa, la1, m1, hloa, hloas, oa, hW1⟩
    have la1 : LS g1 lv fl' last' false W1 := la1
    have y1 := m1.1.1
    have hnl : (fl'.map (·.1)).length ≤ 300 := by have := gd'.len; simp; omega
    have st1 := st.move y1 (fun c hc hn => m1.1.get hc hn) la1 gd' m1.2
    simp (disch := first | omega | (simp only [newRow_size, Array.size_setIfInBounds, Array.size_push]; done) | (simp only [newRow_size, Array.size_setIfInBounds, Array.size_push]; omega)) [r33_15]
    refine Ans.next (la1.numbersO (F := F) (by omega) gd'.w gd'.len (by omega)) ?_
    rintro n g3 ⟨on, k2⟩
    have y2 := k2.1
    have la3 := la1.kept k2 (by simp)
    have st3 := st1.move y2 (fun c hc _ => k2.get hc (by simp)) la3 gd' (fun c q => .inl q)
    have vn := on.sl.vc
    have o2 := on.sl.one
    simp only [vcells] at vn
    simp only [oneCell] at o2
    simp (disch := first | omega | (simp only [newRow_size, Array.size_setIfInBounds, Array.size_push]; done) | (simp only [newRow_size, Array.size_setIfInBounds, Array.size_push]; omega)) [r33_16, vn, srcOf, o2]
    have ba3 : Bld (fun c => ZA c ∨ g3.size ≤ c) 1 ValC g3 av (T.map (·.v)) := st3.ba.imp' (fun c _ q => .inl q) (fun _ _ _ q => q)
    refine Ans.next (val_app (ys := [n]) ba3 (fun c hc => .inr hc) (by simp; omega)) ?_
    rintro av' g4 ⟨ba4, kc4, f4⟩
    have y4 := kc4.1
    have sn4 := SlI.imp on.sl (ok' := fun c => g1.size ≤ c ∧ c < g3.size) (fun _ _ q => q) (keep_of kc4 (by simp))
    simp (disch := first | omega | (simp only [newRow_size, Array.size_setIfInBounds, Array.size_push]; done) | (simp only [newRow_size, Array.size_setIfInBounds, Array.size_push]; omega)) [r33_17]
    refine Ans.next (copied_spec (F := F) (by omega) sn4 (by omega)) ?_
    rintro wn g7 ⟨cn7, k7⟩
    have y7 := k7.1
    have vwn := cn7.vc
    have p2 := cn7.one
    simp only [vcells] at vwn
    simp only [oneCell] at p2
    simp (disch := first | omega | (simp only [newRow_size, Array.size_setIfInBounds, Array.size_push]; done) | (simp only [newRow_size, Array.size_setIfInBounds, Array.size_push]; omega)) [vwn, srcOf, p2]
    have bw7 : Bld (fun c => ZW c ∨ g4.size ≤ c) 1 ValC g7 wv (T.map (·.w)) := by
      have b1 := val_keep st3.bw (g' := g4) (fun c hc hcs => f4 c hcs (by
        rintro (q | q)
        · exact st3.zd c q hc
        · omega))
      have b2 := val_keep b1 (g' := g7) (fun c hc hcs => k7.get hcs (by simp))
      exact b2.imp' (fun c _ q => .inl q) (fun _ _ _ q => q)
    refine Ans.next (val_app (ys := [wn]) bw7 (fun c hc => .inr (by omega)) (by simp; omega)) ?_
    rintro wv' g8 ⟨bw8, kc8, f8⟩
    have y8 := kc8.1
    simp (disch := first | omega | (simp only [newRow_size, Array.size_setIfInBounds, Array.size_push]; done) | (simp only [newRow_size, Array.size_setIfInBounds, Array.size_push]; omega)) [r33_18, hw1]
    have ba8 : Bld (fun c => ZA c ∨ (g3.size ≤ c ∧ c < g4.size)) 1 ValC g8 av' ((T ++ [HE.mk n wn (fl'.map (·.1)) g1.size g3.size]).map (·.v)) := by
      have b1 : Bld (fun c => ZA c ∨ (g3.size ≤ c ∧ c < g4.size)) 1 ValC g4 av' (T.map (·.v) ++ [n]) := ba4.imp' (fun c hc q => by
        rcases q with q | q
        · exact .inl q
        · exact .inr ⟨q, hc⟩) (fun _ _ _ q => q)
      have b2 := val_keep b1 (g' := g7) (fun c hc hcs => k7.get hcs (by simp))
      have b3 := val_keep b2 (g' := g8) (fun c hc hcs => f8 c hcs (by
        rintro (q | q)
        · rcases hc with r | r
          · exact st3.zd c r q
          · have := (st3.zlt c (st3.zb c q)).2; omega
        · rcases hc with r | r
          · have := (st3.zlt c (st3.za c r)).2; omega
          · omega))
      simpa using b3
    have fr8 : ∀ c, c < g3.size → ¬ Z c → hget g8 c = hget g3 c := fun c hc hn => (f8 c (by omega) (by
      rintro (q | q)
      · exact hn (st3.zb c q)
      · omega)).trans ((k7.get (by omega) (by simp)).trans (f4 c hc (by
      rintro (q | q)
      · exact hn (st3.za c q)
      · omega)))
    have hW1l := la1.lt
    have hgrow : ∃ Z' ZA' ZW', HdS s0 g8 lv fl' last' W1 Z' ZA' ZW' av' wv' (T ++ [HE.mk n wn (fl'.map (·.1)) g1.size g3.size]) := by
      refine st3.grow (gm := g4.size) (by omega) ?_ ?_ (by simp) ?_ ?_ ?_ y4 ba8 (by simpa using bw8) ?_ ((kc4.trans k7.c).trans kc8) fr8
      · intro y hy
        simp only [List.mem_cons, List.not_mem_nil, or_false] at hy
        subst hy
        exact ⟨on, fun b o n c e => on.lt b o n c e⟩
      · intro y hy
        simp only [List.mem_cons, List.not_mem_nil, or_false] at hy
        subst hy
        exact ⟨by simp only; omega, by simp only; omega, by simp only; omega, hnl⟩
      · intro y hy z hz
        have hh := (st.rng y hy).2.2.1
        simp only [List.mem_cons, List.not_mem_nil, or_false] at hz
        subst hz
        simp only; omega
      · intro c q y hy hr
        have hh := (st.zlt c q).2
        simp only [List.mem_cons, List.not_mem_nil, or_false] at hy
        subst hy
        simp only at hr; omega
      · intro c hc y hy hr
        have h1 := hW1l c hc
        simp only [List.mem_cons, List.not_mem_nil, or_false] at hy
        subst hy
        simp only at hr; omega
      · intro y hy
        simp only [List.mem_cons, List.not_mem_nil, or_false] at hy
        subst hy
        exact SlI.imp cn7 (fun c _ q => .inr (by omega)) (keep_of kc8 (by simp))
    obtain ⟨Z', ZA', ZW', st8⟩ := hgrow
    exact ih (3 - (i + 1)) _ _ (by omega) ⟨i + 1, fl', last', W1, Z', ZA', ZW', av', wv', _, rfl, by omega, by push_cast; omega, rfl, st8, by simp; omega, by omega⟩
  · have hii : i = 3 := by omega
    subst hii
    simp (disch := first | omega | (simp only [newRow_size, Array.size_setIfInBounds, Array.size_push]; done) | (simp only [newRow_size, Array.size_setIfInBounds, Array.size_push]; omega)) [l33_19, r33_13, eqT, eqF, neT, neF, ltT, ltF, leT, leF, nltT, nltF, nleT, nleF, nneT, nneF, List.getElem?_cons_zero, List.getElem?_cons_succ]
    exact hk g fl last W' Z ZA ZW av wv T _ st (by omega)

theorem Bld.at1 {ok : Nat → Prop} {g : H} {v x : Value} {xs : List Value} (s : Bld ok 1 ValC g v xs) {i : Nat} (hx : xs[i]? = some x) : ∃ b cs es lv an, v = .slice (some ⟨b, 0, none⟩) xs.length xs.length ∧ ok b ∧ hget g b = some (.cells cs es lv an) ∧ (cs.drop i).take 1 = [x] ∧ i + 1 ≤ cs.length := by
  have hil := (List.getElem?_eq_some_iff.1 hx).1
  rcases s with ⟨_, e⟩ | ⟨b, cs, an, e, hk, hb, hl, hi⟩
  · subst e; simp at hil
  · have := hi i x hx
    rw [Nat.mul_one] at this
    exact ⟨b, cs, 1, true, an, e, hk, hb, this, by omega⟩

set_option maxHeartbeats 2000000 in
theorem hd3_spec {F : Nat} (hF : 200000 ≤ F) {s0 : Nat} {g : H} {lv : Value} {fl : Flight} {last : Int} {W : List Nat} {Z ZA ZW : Nat → Prop} {av wv : Value} {T : List HE} (st : HdS s0 g lv fl last W Z ZA ZW av wv T) (hT : T.length ≤ 123) {r : Env}
    {kn kr : K} {ke : Nat → K} {Q : Value → H → Prop}
    (hk : ∀ (e : Env), Ans (kn ((5, av) :: (6, wv) :: e) g []) Q) :
    Ans (evC F (cf F) hd3 kn ke kr ((0, lv) :: (5, av) :: (6, wv) :: r) g []) Q := by
  have hla := st.ba.sl.len
  rw [List.length_map] at hla
  simp (disch := first | omega | (simp only [newRow_size, Array.size_setIfInBounds, Array.size_push]; done) | (simp only [newRow_size, Array.size_setIfInBounds, Array.size_push]; omega)) [hd3, r33_20]
  refine loop_rule (fun mm e g' => ∃ (i : Nat), mm = T.length - i ∧ i ≤ T.length ∧ e = [(5, av), (6, wv), (13, .int .i64 i)] ∧ g' = g) ?_ _ T.length _ _ (by omega) ⟨0, by omega, by omega, rfl, rfl⟩
  rintro mm e g' again ⟨i, rfl, hi, rfl, rfl⟩ ih
  have hw1 : IntKind.i64.wrap ((i : Int) + 1) = ((i + 1 : Nat) : Int) := by rw [wrap_id (by omega) (by omega)]; rfl
  by_cases hlt : i < T.length
  · have hic : (i : Int) < (T.length : Int) := by omega
    obtain ⟨x, hx⟩ : ∃ x, T[i]? = some x := ⟨_, List.getElem?_eq_getElem hlt⟩
    have hm := List.mem_of_getElem? hx
    obtain ⟨b, cs, es, lvv, an, e1, hb, hg, ha, hle⟩ := Bld.at1 st.ba (i := i) (x := x.v) (by rw [List.getElem?_map, hx]; rfl)
    obtain ⟨b2, cs2, es2, lv2, an2, e2, hb2, hg2, ha2, hle2⟩ := Bld.at1 st.bw (i := i) (x := x.w) (by rw [List.getElem?_map, hx]; rfl)
    rw [List.length_map] at e1 e2
    have hgs := lt_of_get hg
    have hg2s := lt_of_get hg2
    have i1 : cf F 27 [x.v, x.w] g' = some (.bool true, g') := by
      obtain ⟨r, h', q1, q2, q3⟩ := ints_same (F := F) (by omega) (st.own x hm).1.sl (st.cop x hm) (by have := (st.rng x hm).2.2.2; omega)
      subst q2 q3
      exact q1
    rw [e1, e2] at ih ⊢
    simp (disch := first | omega | (simp only [newRow_size, Array.size_setIfInBounds, Array.size_push]; done) | (simp only [newRow_size, Array.size_setIfInBounds, Array.size_push]; omega)) [l33_25, r33_21, hic, eqT, eqF, neT, neF, ltT, ltF, leT, leF, nltT, nltF, nleT, nleF, nneT, nneF, List.getElem?_cons_zero, List.getElem?_cons_succ, d33_22, dk_go, chks_nil, chks_cons, chkA_nil, chkA_cons, chk1_no, chk1_yes, chkV_some, hAt_eq, hOf_some, hOf_none, hlt, hg, ha, hle, hg2, ha2, hle2, i1, r33_24, hw1]
    exact ih (T.length - (i + 1)) _ _ (by omega) ⟨i + 1, rfl, by omega, rfl, rfl⟩
  · have hii : i = T.length := by omega
    subst hii
    simp (disch := first | omega | (simp only [newRow_size, Array.size_setIfInBounds, Array.size_push]; done) | (simp only [newRow_size, Array.size_setIfInBounds, Array.size_push]; omega)) [l33_25, r33_21, hla, eqT, eqF, neT, neF, ltT, ltF, leT, leF, nltT, nltF, nleT, nleF, nneT, nneF, List.getElem?_cons_zero, List.getElem?_cons_succ]
    exact hk _

end Go.Proofs.Ytmenfnapbggglaa
