/- Several texts in one: Lc2, Lc3, Lc4, Lc5, Lc6, Lc7, Ld0, Ld1. -/
import Derived.Test.YtmenfnapbggglaaM6

/- The document's line: Send. -/
set_option linter.unusedSimpArgs false
set_option linter.unusedVariables false
namespace Go.Proofs.Ytmenfnapbggglaa
open Go.Ev

def IntC (h : H) (cs : List Value) (n : Int) : Prop := cs = [.int .i64 n]
theorem int_any (h h' : H) (cs : List Value) (x : Int) (q : IntC h cs x) : IntC h' cs x := q
theorem SlI.imp {ok ok' : Nat → Prop} {h h' : H} {v : Value} {xs : List Int} (s : SlR ok 1 IntC h v xs) (h1 : ∀ b, b < h.size → ok b → ok' b) (h3 : ∀ b cs, ok b → cel h b = some cs → cel h' b = some cs) : SlR ok' 1 IntC h' v xs :=
  s.imp h1 (fun _ _ _ q => q) h3

def sendR (nn : Bool) : Flight → Int → List Msg → Flight × Int × List Int
  | fl, last, [] => (fl, last, [])
  | fl, last, m :: r => ((sendR nn (putR nn fl last (m, false)).1 (putR nn fl last (m, false)).2.1 r).1, (sendR nn (putR nn fl last (m, false)).1 (putR nn fl last (m, false)).2.1 r).2.1, (putR nn fl last (m, false)).2.2 :: (sendR nn (putR nn fl last (m, false)).1 (putR nn fl last (m, false)).2.1 r).2.2)

theorem sendR_snoc (nn : Bool) (m : Msg) : ∀ (l : List Msg) (fl : Flight) (last : Int), sendR nn fl last (l ++ [m]) = ((putR nn (sendR nn fl last l).1 (sendR nn fl last l).2.1 (m, false)).1, (putR nn (sendR nn fl last l).1 (sendR nn fl last l).2.1 (m, false)).2.1, (sendR nn fl last l).2.2 ++ [(putR nn (sendR nn fl last l).1 (sendR nn fl last l).2.1 (m, false)).2.2])
  | [], fl, last => by simp [sendR]
  | a :: l, fl, last => by
    simp only [List.cons_append, sendR]
    rw [sendR_snoc nn m l]

theorem putR_len (nn : Bool) (fl : Flight) (last : Int) (p : Parcel) (h : fl.length ≤ 256) : (putR nn fl last p).1.length ≤ 256 := by
  unfold putR
  split
  · exact h
  · rename_i hc
    have : ¬ 256 ≤ fl.length := fun e => hc (.inr e)
    simp; omega
theorem putR_last (nn : Bool) (fl : Flight) (last : Int) (p : Parcel) : last ≤ (putR nn fl last p).2.1 ∧ (putR nn fl last p).2.1 ≤ last + 1 := by
  unfold putR
  split <;> simp <;> omega
theorem sendR_len (nn : Bool) : ∀ (l : List Msg) (fl : Flight) (last : Int), fl.length ≤ 256 → (sendR nn fl last l).1.length ≤ 256
  | [], fl, last, h => h
  | a :: l, fl, last, h => by
    simp only [sendR]
    exact sendR_len nn l _ _ (putR_len nn fl last _ h)
theorem sendR_last (nn : Bool) : ∀ (l : List Msg) (fl : Flight) (last : Int), last ≤ (sendR nn fl last l).2.1 ∧ (sendR nn fl last l).2.1 ≤ last + l.length
  | [], fl, last => by simp [sendR]
  | a :: l, fl, last => by
    simp only [sendR]
    have h1 := sendR_last nn l (putR nn fl last (a, false)).1 (putR nn fl last (a, false)).2.1
    have h2 := putR_last nn fl last (a, false)
    simp
    omega
theorem sendR_ns (nn : Bool) : ∀ (l : List Msg) (fl : Flight) (last : Int), (sendR nn fl last l).2.2.length = l.length
  | [], fl, last => rfl
  | a :: l, fl, last => by
    simp only [sendR, List.length_cons]
    rw [sendR_ns nn l]

def SendPost (ok : Nat → Prop) (h : H) (nn : Bool) (r : Flight × Int × List Int) (v : Value) (h' : H) : Prop := ∃ cs u, v = .tuple ⟨[.agg ⟨cs⟩, u]⟩ ∧ RefL ok h' cs r.1 r.2.1 nn ∧ SlR (fun c => h.size ≤ c) 1 IntC h' u r.2.2 ∧ Kept h h' []

set_option maxHeartbeats 1000000 in
theorem refSend_spec {F : Nat} (hF : 2000 ≤ F) {ok ok2 : Nat → Prop} {h : H} {cs : List Value} {fl : Flight} {last : Int} {nn : Bool} (s : RefL ok h cs fl last nn) (hok : ∀ c, h.size ≤ c → ok c) (hl : fl.length ≤ 256) (hlast : 0 ≤ last ∧ last ≤ 100000000) {w : Value} {ms : List Msg} (sm : SlR ok2 3 MsgC h w ms) (hms : ms.length ≤ 300) :
    Ans (cf F 36 [.agg ⟨cs⟩, w] h) (SendPost ok h nn (sendR nn fl last ms)) := by
  generalize hQ : SendPost ok h nn (sendR nn fl last ms) = Q
  obtain ⟨F, rfl⟩ : ∃ G, F = G + 1 := ⟨F - 1, by omega⟩
  obtain ⟨v, hcs, sv⟩ := id s
  have ov := sv.one
  simp only [oneCell] at ov
  have hlm := sm.len
  rw [cf_step (a := a36) rfl rfl (by simp [a36]), hcs]
  simp (disch := first | omega | (simp only [newRow_size, Array.size_setIfInBounds, Array.size_push]; done) | (simp only [newRow_size, Array.size_setIfInBounds, Array.size_push]; omega)) [a36, r36_0, ov, r36_1, r36_2]
  generalize hz : [Value.slice none 0 0, .int .i64 0, .bool false] = zz
  rw [← hcs]
  have kR : Kept h (Ev.newRow (Ev.newRow h cs 0 []) zz 0 []) [] := (rowKept _ _ _ _).trans (rowKept _ _ _ _)
  have m0 : hget (Ev.newRow (Ev.newRow h cs 0 []) zz 0 []) h.size = some (.cells cs 0 true []) := by simp (disch := first | omega | (simp only [newRow_size, Array.size_setIfInBounds, Array.size_push]; done) | (simp only [newRow_size, Array.size_setIfInBounds, Array.size_push]; omega)) []
  have m1 : hget (Ev.newRow (Ev.newRow h cs 0 []) zz 0 []) (h.size + 1) = some (.cells zz 0 true []) := by simp (disch := first | omega | (simp only [newRow_size, Array.size_setIfInBounds, Array.size_push]; done) | (simp only [newRow_size, Array.size_setIfInBounds, Array.size_push]; omega)) []
  have zR : (Ev.newRow (Ev.newRow h cs 0 []) zz 0 []).size = h.size + 2 := by simp
  generalize Ev.newRow (Ev.newRow h cs 0 []) zz 0 [] = g at kR m0 m1 zR ⊢
  subst hz
  have s0 : RefL (fun c => ok c ∧ c < h.size) g cs fl last nn := s.imp (fun c hc q => ⟨q, hc⟩) (keep_of kR.c (by simp))
  refine loop_rule (fun m e g' => ∃ (i : Nat) (u : Value) (P : Nat → Prop) (cs' : List Value), m = ms.length - i ∧ i ≤ ms.length ∧ e = [(1, w), (2, .pointer (some ⟨h.size, 0, none⟩)), (4, .pointer (some ⟨h.size + 1, 0, none⟩)), (6, u), (7, .int .i64 i)] ∧
    Kept h g' [] ∧ hget g' h.size = some (.cells cs' 0 true []) ∧ hget g' (h.size + 1) = some (.cells [.slice none 0 0, .int .i64 0, .bool false] 0 true []) ∧ RefL P g' cs' (sendR nn fl last (ms.take i)).1 (sendR nn fl last (ms.take i)).2.1 nn ∧ (∀ c, P c → ok c ∧ c < g'.size) ∧ ¬ P h.size ∧ ¬ P (h.size + 1) ∧
    Bld (fun c => h.size + 2 ≤ c) 1 IntC g' u (sendR nn fl last (ms.take i)).2.2) ?_ _ ms.length _ _ (by omega) ⟨0, .slice none 0 0, _, cs, by omega, by omega, rfl, kR, m0, m1, s0, fun c q => ⟨q.1, by omega⟩, by simp, by simp, Bld.nil _ _ _ _⟩
  clear s0 m0 m1 kR
  rintro m e g' again ⟨i, u, P, cs', rfl, hi, rfl, kg, m0, m1, si, hP, hP0, hP1, bu⟩ ih
  have y0 := kg.1
  have z1 := lt_of_get m1
  have hw1 : IntKind.i64.wrap ((i : Int) + 1) = ((i + 1 : Nat) : Int) := by rw [wrap_id (by omega) (by omega)]; rfl
  have hlen := sendR_len nn (ms.take i) fl last hl
  have hlst := sendR_last nn (ms.take i) fl last
  have hns := sendR_ns nn (ms.take i) fl last
  rw [List.length_take] at hlst hns
  obtain ⟨vi, hci, svi⟩ := id si
  have ovi := svi.one
  simp only [oneCell] at ovi
  by_cases hlt : i < ms.length
  · obtain ⟨x, hx⟩ : ∃ x, ms[i]? = some x := ⟨_, List.getElem?_eq_getElem hlt⟩
    have sm' := SlM.imp sm (ok' := ok2) (fun _ _ q => q) (keep_of kg.c (by simp))
    obtain ⟨b, o, c, csx, es, lv, an, rfl, hk, hg, hle, hmc⟩ := sm'.at' hx
    have hmc : (csx.drop (o + i * 3)).take 3 = x.cells := hmc
    have hgs := lt_of_get hg
    have hmc' := hmc
    simp only [Msg.cells] at hmc'
    have m0' := m0
    rw [hci] at m0'
    simp (disch := first | omega | (simp only [newRow_size, Array.size_setIfInBounds, Array.size_push]; done) | (simp only [newRow_size, Array.size_setIfInBounds, Array.size_push]; omega)) [l36_8, r36_3, hlm, eqT, eqF, neT, neF, ltT, ltF, leT, leF, nltT, nltF, nleT, nleF, nneT, nneF, List.getElem?_cons_zero, List.getElem?_cons_succ, d36_4, m0', hg, hmc', ovi]
    rw [← hci]
    have kN := rowKept g' [.slice none 0 0, .int .i64 0, .bool false] 0 []
    have hnb : hget (Ev.newRow g' [.slice none 0 0, .int .i64 0, .bool false] 0 []) g'.size = some (.cells [.slice none 0 0, .int .i64 0, .bool false] 0 true []) := by simp
    have zN : (Ev.newRow g' [.slice none 0 0, .int .i64 0, .bool false] 0 []).size = g'.size + 1 := by simp
    generalize Ev.newRow g' [.slice none 0 0, .int .i64 0, .bool false] 0 [] = g1 at kN hnb zN ⊢
    have s1 : RefL (fun c => P c ∨ g1.size ≤ c) g1 cs' (sendR nn fl last (ms.take i)).1 (sendR nn fl last (ms.take i)).2.1 nn := si.imp (fun _ _ q => .inl q) (keep_of kN.c (by simp))
    refine Ans.nextE (refPut_spec (F := F) (by omega) s1 (fun c hc => .inr hc) hlen (by omega) (x, false)) ?_
    rintro u2 g2 ⟨cs2, rfl, s2, k2⟩
    have y2 := k2.1
    obtain ⟨v2, hcs2, sv2⟩ := id s2
    have ov2 := sv2.one
    simp only [oneCell] at ov2
    have hnb2 := (k2.get (by omega) (by simp)).trans hnb
    have m02 := (k2.get (by omega) (by simp)).trans ((kN.get (by omega) (by simp)).trans m0)
    have m12 := (k2.get (by omega) (by simp)).trans ((kN.get (by omega) (by simp)).trans m1)
    rw [hci] at m02
    rw [hcs2]
    simp (disch := first | omega | (simp only [newRow_size, Array.size_setIfInBounds, Array.size_push]; done) | (simp only [newRow_size, Array.size_setIfInBounds, Array.size_push]; omega)) [hnb2, ov2, eqT, eqF, neT, neF, ltT, ltF, leT, leF, nltT, nltF, nleT, nleF, nneT, nneF, List.getElem?_cons_zero, List.getElem?_cons_succ, r36_5, m02, r36_6, srcOf]
    rw [← hcs2]
    have k3 : Kept g2 ((g2.setIfInBounds g'.size (.cells cs2 0 true [])).setIfInBounds h.size (.cells cs2 0 true [])) [g'.size, h.size] := ⟨by simp, fun c hc hn => by
      simp at hn
      rw [set_other (by omega), set_other (by omega)]⟩
    have n0 : hget ((g2.setIfInBounds g'.size (.cells cs2 0 true [])).setIfInBounds h.size (.cells cs2 0 true [])) h.size = some (.cells cs2 0 true []) := by
      have : h.size < g2.size := by omega
      simp [this]
    have z3 : ((g2.setIfInBounds g'.size (.cells cs2 0 true [])).setIfInBounds h.size (.cells cs2 0 true [])).size = g2.size := by simp
    generalize (g2.setIfInBounds g'.size (.cells cs2 0 true [])).setIfInBounds h.size (.cells cs2 0 true []) = g3 at k3 n0 z3 ⊢
    have n1 := (k3.get (by omega) (by simp; omega)).trans m12
    generalize hkv : (putR nn (sendR nn fl last (ms.take i)).1 (sendR nn fl last (ms.take i)).2.1 (x, false)).2.2 = kv
    have kW := rowKept g3 [.int .i64 kv] 1 []
    have kB : Kept g' g3 [h.size] := by
      refine ⟨by omega, fun c hc hn => ?_⟩
      simp at hn
      exact (k3.get (by omega) (by simp; omega)).trans ((k2.get (by omega) (by simp)).trans (kN.get hc (by simp)))
    have bW := (bu.kept kB (by intro c hc; simp at hc; omega) (fun cs t _ q => q)).kept kW (by simp) (fun cs t _ q => q)
    refine Ans.next (bW.push (x := kv) (bytes := 8) int_any rfl (by omega) (by simp; omega) rfl) ?_
    rintro u' g4 ⟨b4, z4, g4', kc4⟩
    simp only [newRow_size] at z4
    have hsn := sendR_snoc nn x (ms.take i) fl last
    rw [← take_snoc hx] at hsn
    simp (disch := first | omega | (simp only [newRow_size, Array.size_setIfInBounds, Array.size_push]; done) | (simp only [newRow_size, Array.size_setIfInBounds, Array.size_push]; omega)) [r36_7, hw1]
    refine ih (ms.length - (i + 1)) _ _ (by omega) ⟨i + 1, u', (fun c => (P c ∨ g1.size ≤ c) ∧ c < g2.size), cs2, rfl, by omega, rfl, ?_, ?_, ?_, ?_, ?_, ?_, ?_, ?_⟩
    · refine ⟨by omega, fun c hc _ => ?_⟩
      exact (g4' c (by omega)).trans ((kW.get (by omega) (by simp)).trans ((kB.get (by omega) (by simp; omega)).trans (kg.get hc (by simp))))
    · exact (g4' _ (by omega)).trans ((kW.get (by omega) (by simp)).trans n0)
    · exact (g4' _ (by omega)).trans ((kW.get (by omega) (by simp)).trans n1)
    · rw [hsn]
      refine (s2.now.imp (fun _ _ q => q) (keep_of k3.c ?_)).imp (fun _ _ q => q) (keep_of (kW.c.trans kc4) (by simp))
      intro c hc
      simp at hc
      rcases hc with rfl | rfl
      · rintro ⟨q | q, _⟩
        · have := (hP _ q).2; omega
        · omega
      · rintro ⟨q | q, _⟩
        · exact hP0 q
        · omega
    · intro c q
      refine ⟨?_, by omega⟩
      rcases q.1 with q | q
      · exact (hP c q).1
      · exact hok c (by omega)
    · rintro ⟨q | q, _⟩
      · exact hP0 q
      · omega
    · rintro ⟨q | q, _⟩
      · exact hP1 q
      · omega
    · rw [hsn, hkv]
      exact b4
  · have hii : i = ms.length := by omega
    subst hii
    rw [List.take_length] at si bu hci
    have m0' := m0
    rw [hci] at m0'
    simp (disch := first | omega | (simp only [newRow_size, Array.size_setIfInBounds, Array.size_push]; done) | (simp only [newRow_size, Array.size_setIfInBounds, Array.size_push]; omega)) [l36_8, r36_3, hlm, eqT, eqF, neT, neF, ltT, ltF, leT, leF, nltT, nltF, nleT, nleF, nneT, nneF, List.getElem?_cons_zero, List.getElem?_cons_succ, r36_9, m0', ovi, m1]
    rw [← hci]
    subst hQ
    have k6 : Kept g' (g'.setIfInBounds (h.size + 1) (.cells cs' 0 true [])) [h.size + 1] := ⟨by simp, fun c hc hn => set_other (fun e => hn (by simp [e]))⟩
    refine Ans.of ⟨cs', u, rfl, si.imp (fun c _ q => (hP c q).1) (keep_of k6.c (by intro c hc; simp at hc; subst hc; exact hP1)), ?_, ?_⟩
    · exact SlI.imp (bu.kept k6 (by intro c hc; simp at hc; omega) (fun cs t _ q => q)).sl (fun c _ q => by have : h.size + 2 ≤ c := q; show h.size ≤ c; omega) (fun _ _ _ e => e)
    · exact ⟨by have := k6.1; omega, fun c hc _ => (k6.get (by omega) (by simp; omega)).trans (kg.get hc (by simp))⟩

end Go.Proofs.Ytmenfnapbggglaa

/- The document's line: Take. -/
set_option linter.unusedSimpArgs false
set_option linter.unusedVariables false
namespace Go.Proofs.Ytmenfnapbggglaa
open Go.Ev

def notN (n : Int) (fl : Flight) : Flight := fl.filter fun q => decide (q.1 ≠ n)
/-- Take. -/
def takeR (n : Int) (fl : Flight) : Flight := match lk n fl 0 with
  | some _ => notN n fl
  | none => fl

def TakePost (ok : Nat → Prop) (h : H) (nn : Bool) (fl : Flight) (last : Int) (m : Msg) (e : Int) (v : Value) (h' : H) : Prop := ∃ cs, v = .tuple ⟨[.agg ⟨cs⟩, .agg ⟨m.cells⟩, .int .i64 e]⟩ ∧ RefL ok h' cs fl last nn ∧ Kept h h' []

theorem sameM (m : Msg) : sameL m.cells m.cells = true := by
  have := ba_self m.b
  simp [Msg.cells, sameL, sameCell, this]

set_option maxHeartbeats 1000000 in
theorem refTake_spec {F : Nat} (hF : 2000 ≤ F) {ok : Nat → Prop} {h : H} {cs : List Value} {fl : Flight} {last : Int} {nn : Bool} (s : RefL ok h cs fl last nn) (hok : ∀ c, h.size ≤ c → ok c) (hl : fl.length ≤ 256) (hnn : nn = true → fl = []) (n : Int) :
    Ans (cf F 37 [.agg ⟨cs⟩, .int .i64 n] h) (TakePost ok h nn (takeR n fl) last (lookM n fl).1 (lookM n fl).2) := by
  generalize hQ : TakePost ok h nn (takeR n fl) last (lookM n fl).1 (lookM n fl).2 = Q
  obtain ⟨F, rfl⟩ : ∃ G, F = G + 1 := ⟨F - 1, by omega⟩
  obtain ⟨v, hcs, sv⟩ := id s
  have ov := sv.one
  simp only [oneCell] at ov
  have hln := sv.len
  have svv := SlR.same sv
  rw [cf_step (a := a37) rfl rfl (by simp [a37]), hcs]
  simp (disch := first | omega | (simp only [newRow_size, Array.size_setIfInBounds, Array.size_push]; done) | (simp only [newRow_size, Array.size_setIfInBounds, Array.size_push]; omega)) [a37, r37_0, ov, r37_1]
  generalize hz : [Value.slice none 0 0, .int .i64 0, .bool false] = zz
  generalize hy : [Value.int .i64 0, .int .i64 0, .string ⟨#[]⟩] = yy
  rw [← hcs]
  have kR : Kept h (Ev.newRow (Ev.newRow (Ev.newRow h cs 0 []) zz 0 []) yy 0 []) [] := ((rowKept _ _ _ _).trans (rowKept _ _ _ _)).trans (rowKept _ _ _ _)
  have m0 : hget (Ev.newRow (Ev.newRow (Ev.newRow h cs 0 []) zz 0 []) yy 0 []) h.size = some (.cells cs 0 true []) := by simp (disch := first | omega | (simp only [newRow_size, Array.size_setIfInBounds, Array.size_push]; done) | (simp only [newRow_size, Array.size_setIfInBounds, Array.size_push]; omega)) []
  have m1 : hget (Ev.newRow (Ev.newRow (Ev.newRow h cs 0 []) zz 0 []) yy 0 []) (h.size + 1) = some (.cells zz 0 true []) := by simp (disch := first | omega | (simp only [newRow_size, Array.size_setIfInBounds, Array.size_push]; done) | (simp only [newRow_size, Array.size_setIfInBounds, Array.size_push]; omega)) []
  have m2 : hget (Ev.newRow (Ev.newRow (Ev.newRow h cs 0 []) zz 0 []) yy 0 []) (h.size + 2) = some (.cells yy 0 true []) := by simp (disch := first | omega | (simp only [newRow_size, Array.size_setIfInBounds, Array.size_push]; done) | (simp only [newRow_size, Array.size_setIfInBounds, Array.size_push]; omega)) []
  have zR : (Ev.newRow (Ev.newRow (Ev.newRow h cs 0 []) zz 0 []) yy 0 []).size = h.size + 3 := by simp
  generalize Ev.newRow (Ev.newRow (Ev.newRow h cs 0 []) zz 0 []) yy 0 [] = g at kR m0 m1 m2 zR ⊢
  subst hz hy
  have sg : RefL (fun c => ok c ∧ c < h.size) g cs fl last nn := s.imp (fun c hc q => ⟨q, hc⟩) (keep_of kR.c (by simp))
  have m0' := m0
  rw [hcs] at m0'
  refine Ans.next (refLook_spec (F := F) (by omega) sg hl n) ?_
  rintro u g1 ⟨rfl, k1⟩
  have y1 := k1.1
  have n0 := (k1.get (by omega) (by simp)).trans m0'
  have n1 := (k1.get (by omega) (by simp)).trans m1
  have n2 := (k1.get (by omega) (by simp)).trans m2
  have sg1 := sg.imp (ok' := fun c => ok c ∧ c < h.size) (fun _ _ q => q) (keep_of k1.c (by simp))
  have kh1 : Kept h g1 [] := kR.trans k1
  generalize hM : (lookM n fl).1 = M
  generalize hE : (lookM n fl).2 = Ee
  rw [hM, hE] at hQ
  have sM := sameM M
  have hMv : M.val = .agg ⟨M.cells⟩ := rfl
  have hMc : M.cells = [.int .i64 M.fr, .int .i64 M.to, .string M.b] := rfl
  rw [hMv, hMc]
  simp (disch := first | omega | (simp only [newRow_size, Array.size_setIfInBounds, Array.size_push]; done) | (simp only [newRow_size, Array.size_setIfInBounds, Array.size_push]; omega)) [eqT, eqF, neT, neF, ltT, ltF, leT, leF, nltT, nltF, nleT, nleF, nneT, nneF, List.getElem?_cons_zero, List.getElem?_cons_succ]
  have kN := rowKept g1 M.cells 0 []
  have hnb : hget (Ev.newRow g1 M.cells 0 []) g1.size = some (.cells M.cells 0 true []) := by simp
  have zN : (Ev.newRow g1 M.cells 0 []).size = g1.size + 1 := by simp
  rw [hMc] at kN hnb zN sM
  generalize Ev.newRow g1 [.int .i64 M.fr, .int .i64 M.to, .string M.b] 0 [] = g2 at kN hnb zN ⊢
  have hnbs := lt_of_get hnb
  have p0 := (kN.get (by omega) (by simp)).trans n0
  have p1 := (kN.get (by omega) (by simp)).trans n1
  have p2 := (kN.get (by omega) (by simp)).trans n2
  have sg2 := sg1.imp (ok' := fun c => ok c ∧ c < h.size) (fun _ _ q => q) (keep_of kN.c (by simp))
  have kh2 : Kept h g2 [] := kh1.trans kN
  have fin : ∀ (g' : H) (r r2 : List Value), (∀ b, b < h.size → hget g' b = hget h b) → h.size + 3 ≤ g'.size → Kept h ((g'.setIfInBounds (h.size + 1) (.cells r 0 true [])).setIfInBounds (h.size + 2) (.cells r2 0 true [])) [] := by
    intro g2 r r2 hg hz
    exact ⟨by simp; omega, fun c hc _ => by rw [set_other (by omega), set_other (by omega)]; exact hg c hc⟩
  cases hlk : lk n fl 0 with
  | none =>
    have hE' : Ee = 160 := by rw [← hE]; simp [lookM, hlk]
    subst hE'
    have ht : takeR n fl = fl := by unfold takeR; rw [hlk]
    simp (disch := first | omega | (simp only [newRow_size, Array.size_setIfInBounds, Array.size_push]; done) | (simp only [newRow_size, Array.size_setIfInBounds, Array.size_push]; omega)) [r37_2, eqT, eqF, neT, neF, ltT, ltF, leT, leF, nltT, nltF, nleT, nleF, nneT, nneF, List.getElem?_cons_zero, List.getElem?_cons_succ, d37_3, dk_go, chks_nil, chks_cons, chkA_nil, chkA_cons, chk1_no, chk1_yes, chkV_some, hAt_eq, hOf_some, hOf_none, sameV, p0, hnb, p1, p2, ov, sM]
    subst hQ
    rw [ht]
    have k6 : Kept g2 ((g2.setIfInBounds (h.size + 1) (.cells [v, .int .i64 last, .bool nn] 0 true [])).setIfInBounds (h.size + 2) (.cells [.int .i64 M.fr, .int .i64 M.to, .string M.b] 0 true [])) [h.size + 1, h.size + 2] := ⟨by simp, fun c hc hn => by
      simp at hn
      rw [set_other (by omega), set_other (by omega)]⟩
    rw [← hcs]
    rw [← hcs] at k6
    exact Ans.of ⟨cs, rfl, sg2.imp (fun c _ q => q.1) (keep_of k6.c (by intro c hc; simp at hc; omega)), ⟨by have := k6.1; omega, fun c hc _ => (k6.get (by omega) (by simp; omega)).trans (kh2.get hc (by simp))⟩⟩
  | some q =>
    have hE' : Ee = 0 := by rw [← hE]; simp [lookM, hlk]
    subst hE'
    have hnf : nn = false := by
      cases nn with
      | false => rfl
      | true => rw [hnn rfl] at hlk; simp [lk] at hlk
    subst hnf
    have ht : takeR n fl = notN n fl := by unfold takeR; rw [hlk]
    simp (disch := first | omega | (simp only [newRow_size, Array.size_setIfInBounds, Array.size_push]; done) | (simp only [newRow_size, Array.size_setIfInBounds, Array.size_push]; omega)) [r37_2, eqT, eqF, neT, neF, ltT, ltF, leT, leF, nltT, nltF, nleT, nleF, nneT, nneF, List.getElem?_cons_zero, List.getElem?_cons_succ, r37_4, p0, r37_5]
    refine loop_rule (fun m e g' => ∃ (i : Nat) (u : Value), m = fl.length - i ∧ i ≤ fl.length ∧ e = [(1, .int .i64 n), (2, .pointer (some ⟨h.size, 0, none⟩)), (4, .pointer (some ⟨h.size + 1, 0, none⟩)), (5, .pointer (some ⟨h.size + 2, 0, none⟩)), (7, .pointer (some ⟨g1.size, 0, none⟩)), (9, .pointer (some ⟨g1.size + 1, 0, none⟩)), (10, .int .i64 i)] ∧
      (∀ b, b < g1.size + 1 → hget g' b = hget g2 b) ∧ hget g' (g1.size + 1) = some (.cells [u, .int .i64 last, .bool false] 0 true []) ∧ Bld (fun c => g1.size + 2 ≤ c) 5 PclC g' u (notN n (fl.take i)) ∧ (notN n (fl.take i)).length ≤ i) ?_ _ fl.length _ _ (by omega) ⟨0, .slice none 0 0, by omega, by omega, by rw [zN]; rfl, fun b hb => by simp (disch := first | omega | (simp only [newRow_size, Array.size_setIfInBounds, Array.size_push]; done) | (simp only [newRow_size, Array.size_setIfInBounds, Array.size_push]; omega)) [], by rw [← zN]; simp, Bld.nil _ _ _ _, by simp [notN]⟩
    rintro m e g' again ⟨i, u, rfl, hi, rfl, kg, n3, bu, hle9⟩ ih
    have n3s := lt_of_get n3
    have q0 := (kg h.size (by omega)).trans p0
    have q1 := (kg (h.size + 1) (by omega)).trans p1
    have q2 := (kg (h.size + 2) (by omega)).trans p2
    have q7 := (kg g1.size (by omega)).trans hnb
    obtain ⟨v9, e9, sv9⟩ := id sg2
    rw [hcs] at e9
    injection e9 with e9
    subst e9
    have sg' : SlR (fun c => ok c ∧ c < h.size) 5 PclC g' v fl := SlF.imp sv9 (fun c hc q => q) (fun b zs hb hz => (cel_congr (kg b (by omega))).trans hz)
    have hw1 : IntKind.i64.wrap ((i : Int) + 1) = ((i + 1 : Nat) : Int) := by rw [wrap_id (by omega) (by omega)]; rfl
    have ou := bu.sl.one
    have vu := bu.sl.vc
    simp only [oneCell] at ou
    simp only [vcells] at vu
    by_cases hlt : i < fl.length
    · obtain ⟨x, hx⟩ : ∃ x, fl[i]? = some x := ⟨_, List.getElem?_eq_getElem hlt⟩
      obtain ⟨b, o, c, csx, es, lv, an, rfl, hk, hg, hle, hpc⟩ := sg'.at' hx
      obtain ⟨e5, e1, e3, e4⟩ := pc_at hpc hle
      have hgs := lt_of_get hg
      by_cases hxn : x.1 = n
      · simp (disch := first | omega | (simp only [newRow_size, Array.size_setIfInBounds, Array.size_push]; done) | (simp only [newRow_size, Array.size_setIfInBounds, Array.size_push]; omega)) [l37_10, r37_6, q0, hln, eqT, eqF, neT, neF, ltT, ltF, leT, leF, nltT, nltF, nleT, nleF, nneT, nneF, List.getElem?_cons_zero, List.getElem?_cons_succ, r37_7, hg, e1, hxn, r37_9, hw1]
        refine ih (fl.length - (i + 1)) _ _ (by omega) ⟨i + 1, u, rfl, by omega, rfl, kg, n3, ?_, ?_⟩
        · rw [take_snoc hx]
          simpa [notN, hxn] using bu
        · exact Nat.le_trans (List.length_filter_le _ _) (by rw [List.length_take]; omega)
      · simp (disch := first | omega | (simp only [newRow_size, Array.size_setIfInBounds, Array.size_push]; done) | (simp only [newRow_size, Array.size_setIfInBounds, Array.size_push]; omega)) [l37_10, r37_6, q0, hln, eqT, eqF, neT, neF, ltT, ltF, leT, leF, nltT, nltF, nleT, nleF, nneT, nneF, List.getElem?_cons_zero, List.getElem?_cons_succ, r37_7, hg, e1, hxn, d37_8, n3, e5, srcOf]
        have kN' := rowKept g' [.int .i64 x.1, .int .i64 x.2.1.fr, .int .i64 x.2.1.to, .string x.2.1.b, .bool x.2.2] 5 []
        have bN := bu.kept kN' (by simp) (fun cs t _ q => q)
        refine Ans.nextE (bN.push (x := x) (bytes := 48) pcl_any rfl (by omega) (by simp; omega) rfl) ?_
        rintro u' h5 ⟨b5, z5, g5, _⟩
        have ou' := b5.sl.one
        have vu' := b5.sl.vc
        simp only [oneCell] at ou'
        simp only [vcells] at vu'
        simp only [newRow_size] at z5
        have q3 := (g5 (g1.size + 1) (by omega)).trans ((kN'.get n3s (by simp)).trans n3)
        simp (disch := first | omega | (simp only [newRow_size, Array.size_setIfInBounds, Array.size_push]; done) | (simp only [newRow_size, Array.size_setIfInBounds, Array.size_push]; omega)) [q3, ou', vu', eqT, eqF, neT, neF, ltT, ltF, leT, leF, nltT, nltF, nleT, nleF, nneT, nneF, List.getElem?_cons_zero, List.getElem?_cons_succ, r37_9, hw1]
        refine ih (fl.length - (i + 1)) _ _ (by omega) ⟨i + 1, u', rfl, by omega, rfl, ?_, by simp (disch := first | omega | (simp only [newRow_size, Array.size_setIfInBounds, Array.size_push]; done) | (simp only [newRow_size, Array.size_setIfInBounds, Array.size_push]; omega)) [], ?_, ?_⟩
        · intro b hb
          rw [set_other (by omega)]
          exact (g5 b (by omega)).trans ((kN'.get (by omega) (by simp)).trans (kg b hb))
        · rw [take_snoc hx]
          have : notN n (fl.take i ++ [x]) = notN n (fl.take i) ++ [x] := by simp [notN, hxn]
          rw [this]
          refine b5.kept (L := [g1.size + 1]) ⟨by simp, fun c hc hn => set_other (fun e => hn (by simp [e]))⟩ ?_ (fun cs t _ q => q)
          intro c hc
          simp at hc
          omega
        · exact Nat.le_trans (List.length_filter_le _ _) (by rw [List.length_take]; omega)
    · have hii : i = fl.length := by omega
      subst hii
      rw [List.take_length] at bu
      have su := SlR.same bu.sl
      simp (disch := first | omega | (simp only [newRow_size, Array.size_setIfInBounds, Array.size_push]; done) | (simp only [newRow_size, Array.size_setIfInBounds, Array.size_push]; omega)) [l37_10, r37_6, q0, hln, eqT, eqF, neT, neF, ltT, ltF, leT, leF, nltT, nltF, nleT, nleF, nneT, nneF, List.getElem?_cons_zero, List.getElem?_cons_succ, d37_11, n3, dk_go, chks_nil, chks_cons, chkA_nil, chkA_cons, chk1_no, chk1_yes, chkV_some, hAt_eq, hOf_some, hOf_none, sameV, q7, q1, q2, ou, vu, sM]
      subst hQ
      rw [ht]
      have k6 : Kept g' ((g'.setIfInBounds (h.size + 1) (.cells [u, .int .i64 last, .bool false] 0 true [])).setIfInBounds (h.size + 2) (.cells [.int .i64 M.fr, .int .i64 M.to, .string M.b] 0 true [])) [h.size + 1, h.size + 2] := ⟨by simp, fun c hc hn => by
        simp at hn
        rw [set_other (by omega), set_other (by omega)]⟩
      have b6 := bu.kept k6 (by intro c hc; simp at hc; omega) (fun cs t _ q => q)
      exact Ans.of ⟨_, rfl, ⟨u, rfl, SlF.imp b6.sl (fun c _ hc => hok c (by have : g1.size + 2 ≤ c := hc; omega)) (fun _ _ _ e => e)⟩, ⟨by have := k6.1; omega, fun c hc _ => (k6.get (by omega) (by simp; omega)).trans ((kg c (by omega)).trans (kh2.get hc (by simp)))⟩⟩

end Go.Proofs.Ytmenfnapbggglaa

/- The document's line: Double, Numbers, New; ints. -/
set_option linter.unusedSimpArgs false
set_option linter.unusedVariables false
namespace Go.Proofs.Ytmenfnapbggglaa
open Go.Ev

theorem refNew_spec {F : Nat} (hF : 1 ≤ F) (h : H) : Ans (cf F 24 [] h) fun u h' => u = .agg ⟨[.slice none 0 0, .int .i64 0, .bool false]⟩ ∧ Kept h h' [] := by
  obtain ⟨F, rfl⟩ : ∃ G, F = G + 1 := ⟨F - 1, by omega⟩
  rw [cf_step (a := a24) rfl rfl (by simp [a24])]
  simp (disch := first | omega | (simp only [newRow_size, Array.size_setIfInBounds, Array.size_push]; done) | (simp only [newRow_size, Array.size_setIfInBounds, Array.size_push]; omega)) [a24, r24_0, r24_1]
  exact Ans.of ⟨rfl, rowKept _ _ _ _⟩

/-- Double. -/
def doubleR (nn : Bool) (n : Int) (fl : Flight) (last : Int) : Flight × Int × Int × Int := match lk n fl 0 with
  | none => (fl, last, 0, 160)
  | some (_, p) => if (putR nn fl last p).2.2 < 0 then (fl, last, 0, 46) else ((putR nn fl last p).1, (putR nn fl last p).2.1, (putR nn fl last p).2.2, 0)

def DblPost (ok : Nat → Prop) (h : H) (nn : Bool) (r : Flight × Int × Int × Int) (v : Value) (h' : H) : Prop := ∃ cs, v = .tuple ⟨[.agg ⟨cs⟩, .int .i64 r.2.2.1, .int .i64 r.2.2.2]⟩ ∧ RefL ok h' cs r.1 r.2.1 nn ∧ Kept h h' []

set_option maxHeartbeats 1000000 in
theorem refDouble_spec {F : Nat} (hF : 2000 ≤ F) {ok : Nat → Prop} {h : H} {cs : List Value} {fl : Flight} {last : Int} {nn : Bool} (s : RefL ok h cs fl last nn) (hok : ∀ c, h.size ≤ c → ok c) (hl : fl.length ≤ 256) (hlast : 0 ≤ last ∧ last ≤ 1000000000) (n : Int) :
    Ans (cf F 38 [.agg ⟨cs⟩, .int .i64 n] h) (DblPost ok h nn (doubleR nn n fl last)) := by
  generalize hQ : DblPost ok h nn (doubleR nn n fl last) = Q
  obtain ⟨F, rfl⟩ : ∃ G, F = G + 1 := ⟨F - 1, by omega⟩
  obtain ⟨v, hcs, sv⟩ := id s
  have ov := sv.one
  simp only [oneCell] at ov
  rw [cf_step (a := a38) rfl rfl (by simp [a38]), hcs]
  simp (disch := first | omega | (simp only [newRow_size, Array.size_setIfInBounds, Array.size_push]; done) | (simp only [newRow_size, Array.size_setIfInBounds, Array.size_push]; omega)) [a38, r38_0, ov, r38_1]
  generalize hz : [Value.slice none 0 0, .int .i64 0, .bool false] = zz
  rw [← hcs]
  have kR : Kept h (Ev.newRow (Ev.newRow h cs 0 []) zz 0 []) [] := (rowKept _ _ _ _).trans (rowKept _ _ _ _)
  have m0 : hget (Ev.newRow (Ev.newRow h cs 0 []) zz 0 []) h.size = some (.cells cs 0 true []) := by simp (disch := first | omega | (simp only [newRow_size, Array.size_setIfInBounds, Array.size_push]; done) | (simp only [newRow_size, Array.size_setIfInBounds, Array.size_push]; omega)) []
  have m1 : hget (Ev.newRow (Ev.newRow h cs 0 []) zz 0 []) (h.size + 1) = some (.cells zz 0 true []) := by simp (disch := first | omega | (simp only [newRow_size, Array.size_setIfInBounds, Array.size_push]; done) | (simp only [newRow_size, Array.size_setIfInBounds, Array.size_push]; omega)) []
  have zR : (Ev.newRow (Ev.newRow h cs 0 []) zz 0 []).size = h.size + 2 := by simp
  generalize Ev.newRow (Ev.newRow h cs 0 []) zz 0 [] = g at kR m0 m1 zR ⊢
  subst hz
  have sg : RefL (fun c => ok c ∧ c < h.size) g cs fl last nn := s.imp (fun c hc q => ⟨q, hc⟩) (keep_of kR.c (by simp))
  refine Ans.next (find_spec (F := F) (by omega) sg hl n) ?_
  rintro u g1 ⟨rfl, k1⟩
  have y1 := k1.1
  have n0 := (k1.get (by omega) (by simp)).trans m0
  have n1 := (k1.get (by omega) (by simp)).trans m1
  have kh1 : Kept h g1 [] := kR.trans k1
  have sg1 := sg.imp (ok' := fun c => ok c ∧ c < h.size) (fun _ _ q => q) (keep_of k1.c (by simp))
  have fin : ∀ (g' : H) (cs' : List Value) (r : Flight × Int × Int × Int) (ok' : Nat → Prop), RefL ok' g' cs' r.1 r.2.1 nn → (∀ c, ok' c → ok c ∧ c ≠ h.size + 1) → Kept h g' [] → h.size + 2 ≤ g'.size → doubleR nn n fl last = r →
      Ans (some (Value.tuple ⟨[.agg ⟨cs'⟩, .int .i64 r.2.2.1, .int .i64 r.2.2.2]⟩, g'.setIfInBounds (h.size + 1) (.cells cs' 0 true []))) Q := by
    intro g' cs' r ok' s' hok' k' hz e
    subst hQ
    rw [e]
    have k6 : Kept g' (g'.setIfInBounds (h.size + 1) (.cells cs' 0 true [])) [h.size + 1] := ⟨by simp, fun c hc hn => set_other (fun e => hn (by simp [e]))⟩
    exact Ans.of ⟨cs', rfl, s'.imp (fun c _ q => (hok' c q).1) (keep_of k6.c (by intro c hc; simp at hc; subst hc; exact fun q => (hok' _ q).2 rfl)), ⟨by have := k6.1; have := k'.1; omega, fun c hc _ => (k6.get (by have := k'.1; omega) (by simp; omega)).trans (k'.get hc (by simp))⟩⟩
  cases hlk : lk n fl 0 with
  | none =>
    have hd : doubleR nn n fl last = (fl, last, 0, 160) := by unfold doubleR; rw [hlk]
    have n0' := n0
    rw [hcs] at n0'
    simp (disch := first | omega | (simp only [newRow_size, Array.size_setIfInBounds, Array.size_push]; done) | (simp only [newRow_size, Array.size_setIfInBounds, Array.size_push]; omega)) [fd_none hlk, r38_2, eqT, eqF, neT, neF, ltT, ltF, leT, leF, nltT, nltF, nleT, nleF, nneT, nneF, List.getElem?_cons_zero, List.getElem?_cons_succ, r38_3, n0', n1, ov]
    rw [← hcs]
    exact fin g1 cs (fl, last, 0, 160) _ sg1 (fun c q => ⟨q.1, by omega⟩) kh1 (by omega) hd
  | some q =>
    obtain ⟨i, p⟩ := q
    obtain ⟨_, hp⟩ := lk_get hlk
    rw [Nat.sub_zero] at hp
    have hil := (List.getElem?_eq_some_iff.1 hp).1
    obtain ⟨v1, e1, sv1⟩ := id sg1
    rw [hcs] at e1
    injection e1 with e1
    subst e1
    obtain ⟨b, o, c, csx, es, lv, an, rfl, hk, hg, hle, hpc⟩ := sv1.at' hp
    obtain ⟨e5, e1, e3, e4⟩ := pc_at hpc hle
    have hgs := lt_of_get hg
    have n0' := n0
    rw [hcs] at n0'
    simp (disch := first | omega | (simp only [newRow_size, Array.size_setIfInBounds, Array.size_push]; done) | (simp only [newRow_size, Array.size_setIfInBounds, Array.size_push]; omega)) [fd_some hlk, r38_2, eqT, eqF, neT, neF, ltT, ltF, leT, leF, nltT, nltF, nleT, nleF, nneT, nneF, List.getElem?_cons_zero, List.getElem?_cons_succ, d38_4, n0', hg, e3, e4]
    rw [← hcs]
    have kN := rowKept g1 [.slice none 0 0, .int .i64 0, .bool false] 0 []
    have hnb : hget (Ev.newRow g1 [.slice none 0 0, .int .i64 0, .bool false] 0 []) g1.size = some (.cells [.slice none 0 0, .int .i64 0, .bool false] 0 true []) := by simp
    have zN : (Ev.newRow g1 [.slice none 0 0, .int .i64 0, .bool false] 0 []).size = g1.size + 1 := by simp
    generalize Ev.newRow g1 [.slice none 0 0, .int .i64 0, .bool false] 0 [] = g2 at kN hnb zN ⊢
    have s2 : RefL (fun c => (ok c ∧ c < h.size) ∨ g2.size ≤ c) g2 cs fl last nn := sg1.imp (fun _ _ q => .inl q) (keep_of kN.c (by simp))
    refine Ans.nextE (refPut_spec (F := F) (by omega) s2 (fun c hc => .inr hc) hl hlast p) ?_
    rintro u2 g3 ⟨cs3, rfl, s3, k3⟩
    have y3 := k3.1
    obtain ⟨v3, hcs3, sv3⟩ := id s3
    have ov3 := sv3.one
    simp only [oneCell] at ov3
    have hnb3 := (k3.get (by omega) (by simp)).trans hnb
    have q0 := (k3.get (by omega) (by simp)).trans ((kN.get (by omega) (by simp)).trans n0)
    have q1 := (k3.get (by omega) (by simp)).trans ((kN.get (by omega) (by simp)).trans n1)
    rw [hcs] at q0
    rw [hcs3]
    simp (disch := first | omega | (simp only [newRow_size, Array.size_setIfInBounds, Array.size_push]; done) | (simp only [newRow_size, Array.size_setIfInBounds, Array.size_push]; omega)) [hnb3, ov3, eqT, eqF, neT, neF, ltT, ltF, leT, leF, nltT, nltF, nleT, nleF, nneT, nneF, List.getElem?_cons_zero, List.getElem?_cons_succ]
    rw [← hcs3]
    have k4 : Kept g3 (g3.setIfInBounds g1.size (.cells cs3 0 true [])) [g1.size] := ⟨by simp, fun c hc hn => set_other (fun e => hn (by simp [e]))⟩
    have hnb4 : hget (g3.setIfInBounds g1.size (.cells cs3 0 true [])) g1.size = some (.cells cs3 0 true []) := by
      have : g1.size < g3.size := by omega
      simp [this]
    have z4 : (g3.setIfInBounds g1.size (.cells cs3 0 true [])).size = g3.size := by simp
    generalize g3.setIfInBounds g1.size (.cells cs3 0 true []) = g4 at k4 hnb4 z4 ⊢
    have hnb4s := lt_of_get hnb4
    have t0 := (k4.get (by omega) (by simp; omega)).trans q0
    have t1 := (k4.get (by omega) (by simp; omega)).trans q1
    have kh4 : Kept h g4 [] := ⟨by have := kh1.1; omega, fun c hc _ => (k4.get (by omega) (by simp; omega)).trans ((k3.get (by omega) (by simp)).trans ((kN.get (by omega) (by simp)).trans (kh1.get hc (by simp))))⟩
    have s4 := s3.imp (ok' := fun c => (ok c ∧ c < h.size) ∨ g2.size ≤ c) (fun _ _ q => q) (keep_of k4.c (by intro c hc; simp at hc; omega))
    have hok4 : ∀ c, ((ok c ∧ c < h.size) ∨ g2.size ≤ c) → ok c ∧ c ≠ h.size + 1 := by
      intro c q
      rcases q with q | q
      · exact ⟨q.1, by omega⟩
      · exact ⟨hok c (by omega), by omega⟩
    by_cases hneg : (putR nn fl last p).2.2 < 0
    · have hd : doubleR nn n fl last = (fl, last, 0, 46) := by unfold doubleR; rw [hlk]; simp [hneg]
      simp (disch := first | omega | (simp only [newRow_size, Array.size_setIfInBounds, Array.size_push]; done) | (simp only [newRow_size, Array.size_setIfInBounds, Array.size_push]; omega)) [r38_5, hneg, eqT, eqF, neT, neF, ltT, ltF, leT, leF, nltT, nltF, nleT, nleF, nneT, nneF, List.getElem?_cons_zero, List.getElem?_cons_succ, r38_6, t0, t1]
      rw [← hcs]
      have sA := (sg1.imp (ok' := fun c => ok c ∧ c < h.size) (fun _ _ q => q) (keep_of kN.c (by simp))).imp (ok' := fun c => ok c ∧ c < h.size) (fun _ _ q => q) (keep_of k3.c (by simp))
      have sB := sA.imp (ok' := fun c => ok c ∧ c < h.size) (fun _ _ q => q) (keep_of k4.c (by intro c hc; simp at hc; omega))
      exact fin g4 cs (fl, last, 0, 46) _ sB (fun c q => ⟨q.1, by omega⟩) kh4 (by omega) hd
    · have hd : doubleR nn n fl last = ((putR nn fl last p).1, (putR nn fl last p).2.1, (putR nn fl last p).2.2, 0) := by unfold doubleR; rw [hlk]; simp [hneg]
      rw [hcs3] at hnb4
      simp (disch := first | omega | (simp only [newRow_size, Array.size_setIfInBounds, Array.size_push]; done) | (simp only [newRow_size, Array.size_setIfInBounds, Array.size_push]; omega)) [r38_5, hneg, eqT, eqF, neT, neF, ltT, ltF, leT, leF, nltT, nltF, nleT, nleF, nneT, nneF, List.getElem?_cons_zero, List.getElem?_cons_succ, r38_7, hnb4, ov3, t1]
      rw [← hcs3]
      exact fin g4 cs3 ((putR nn fl last p).1, (putR nn fl last p).2.1, (putR nn fl last p).2.2, 0) _ s4 hok4 kh4 (by omega) hd

theorem refNumbers_spec {F : Nat} (hF : 1000 ≤ F) {ok : Nat → Prop} {h : H} {cs : List Value} {fl : Flight} {last : Int} {nn : Bool} (s : RefL ok h cs fl last nn) (hl : fl.length ≤ 256) :
    Ans (cf F 28 [.agg ⟨cs⟩] h) fun u h' => SlR (fun c => h.size ≤ c) 1 IntC h' u (fl.map (·.1)) ∧ Kept h h' [] := by
  generalize hQ : (fun (u : Value) (h' : H) => SlR (fun c => h.size ≤ c) 1 IntC h' u (fl.map (·.1)) ∧ Kept h h' []) = Q
  obtain ⟨F, rfl⟩ : ∃ G, F = G + 1 := ⟨F - 1, by omega⟩
  obtain ⟨v, rfl, s⟩ := s
  have ov := s.one
  simp only [oneCell] at ov
  have hln := s.len
  rw [cf_step (a := a28) rfl rfl (by simp [a28])]
  simp (disch := first | omega | (simp only [newRow_size, Array.size_setIfInBounds, Array.size_push]; done) | (simp only [newRow_size, Array.size_setIfInBounds, Array.size_push]; omega)) [a28, r28_0, ov, r28_1, r28_2]
  have kR := rowKept h [v, .int .i64 last, .bool nn] 0 []
  have hR : hget (Ev.newRow h [v, .int .i64 last, .bool nn] 0 []) h.size = some (.cells [v, .int .i64 last, .bool nn] 0 true []) := by simp
  have zR : (Ev.newRow h [v, .int .i64 last, .bool nn] 0 []).size = h.size + 1 := by simp
  generalize Ev.newRow h [v, .int .i64 last, .bool nn] 0 [] = g at kR hR zR ⊢
  have sg := SlF.imp s (ok' := fun c => ok c ∧ c < h.size) (fun c hc q => ⟨q, hc⟩) (keep_of kR.c (by simp))
  refine loop_rule (fun m e g' => ∃ (i : Nat) (u : Value), m = fl.length - i ∧ i ≤ fl.length ∧ e = [(1, .pointer (some ⟨h.size, 0, none⟩)), (3, u), (4, .int .i64 i)] ∧ (∀ b, b < h.size + 1 → hget g' b = hget g b) ∧ h.size + 1 ≤ g'.size ∧ Bld (fun c => h.size + 1 ≤ c) 1 IntC g' u ((fl.take i).map (·.1))) ?_ _ fl.length _ _ (by omega) ⟨0, .slice none 0 0, by omega, by omega, rfl, fun _ _ => rfl, by omega, Bld.nil _ _ _ _⟩
  rintro m e g' again ⟨i, u, rfl, hi, rfl, kg, zg, bu⟩ ih
  have hw : IntKind.i64.wrap ((i : Int) + 1) = ((i + 1 : Nat) : Int) := by rw [wrap_id (by omega) (by omega)]; rfl
  have n0 := (kg h.size (by omega)).trans hR
  have n0s := lt_of_get n0
  have sg' : SlR (fun c => ok c ∧ c < h.size) 5 PclC g' v fl := SlF.imp sg (fun _ _ q => q) (fun b zs hb hz => (cel_congr (kg b (by omega))).trans hz)
  by_cases hlt : i < fl.length
  · obtain ⟨x, hx⟩ : ∃ x, fl[i]? = some x := ⟨_, List.getElem?_eq_getElem hlt⟩
    obtain ⟨b, o, c, csx, es, lv, an, rfl, hk, hg, hle, hpc⟩ := sg'.at' hx
    obtain ⟨e5, e1, e3, e4⟩ := pc_at hpc hle
    have hgs := lt_of_get hg
    simp (disch := first | omega | (simp only [newRow_size, Array.size_setIfInBounds, Array.size_push]; done) | (simp only [newRow_size, Array.size_setIfInBounds, Array.size_push]; omega)) [l28_6, r28_3, n0, hln, eqT, eqF, neT, neF, ltT, ltF, leT, leF, nltT, nltF, nleT, nleF, nneT, nneF, List.getElem?_cons_zero, List.getElem?_cons_succ, r28_4, hg, e1, srcOf]
    have kN := rowKept g' [.int .i64 x.1] 1 []
    have bN := bu.kept kN (by simp) (fun cs t _ q => q)
    refine Ans.next (bN.push (x := x.1) (bytes := 8) int_any rfl (by simp; omega) (by simp; omega) rfl) ?_
    rintro u' h5 ⟨b5, z5, g5, _⟩
    simp only [newRow_size] at z5
    simp (disch := first | omega | (simp only [newRow_size, Array.size_setIfInBounds, Array.size_push]; done) | (simp only [newRow_size, Array.size_setIfInBounds, Array.size_push]; omega)) [r28_5, hw]
    refine ih (fl.length - (i + 1)) _ _ (by omega) ⟨i + 1, u', rfl, by omega, rfl, fun b hb => (g5 b (by omega)).trans ((kN.get (by omega) (by simp)).trans (kg b hb)), by omega, ?_⟩
    rw [take_snoc hx]
    simpa using b5
  · have hii : i = fl.length := by omega
    subst hii
    rw [List.take_length] at bu
    simp (disch := first | omega | (simp only [newRow_size, Array.size_setIfInBounds, Array.size_push]; done) | (simp only [newRow_size, Array.size_setIfInBounds, Array.size_push]; omega)) [l28_6, r28_3, n0, hln, eqT, eqF, neT, neF, ltT, ltF, leT, leF, nltT, nltF, nleT, nleF, nneT, nneF, List.getElem?_cons_zero, List.getElem?_cons_succ, r28_7]
    subst hQ
    exact Ans.of ⟨SlI.imp bu.sl (fun c _ q => by have : h.size + 1 ≤ c := q; show h.size ≤ c; omega) (fun _ _ _ e => e), ⟨by omega, fun c hc _ => (kg c (by omega)).trans (kR.get hc (by simp))⟩⟩

theorem ints_same {F : Nat} (hF : 1000 ≤ F) {ok ok' : Nat → Prop} {h : H} {v w : Value} {xs : List Int} (s : SlR ok 1 IntC h v xs) (t : SlR ok' 1 IntC h w xs) (hs : xs.length ≤ 900) : Ans (cf F 27 [v, w] h) fun u h' => u = .bool true ∧ h' = h := by
  obtain ⟨F, rfl⟩ : ∃ G, F = G + 1 := ⟨F - 1, by omega⟩
  have hl := s.len
  have hl2 := t.len
  rw [cf_step (a := a27) rfl rfl (by simp [a27])]
  simp (disch := first | omega | (simp only [newRow_size, Array.size_setIfInBounds, Array.size_push]; done) | (simp only [newRow_size, Array.size_setIfInBounds, Array.size_push]; omega)) [a27, r27_0, r27_1, r27_3, hl, hl2, eqT, eqF, neT, neF, ltT, ltF, leT, leF, nltT, nltF, nleT, nleF, nneT, nneF, List.getElem?_cons_zero, List.getElem?_cons_succ]
  refine loop_rule (fun m e g => ∃ (i : Nat), m = xs.length - i ∧ i ≤ xs.length ∧ e = [(0, v), (1, w), (5, .int .i64 i)] ∧ g = h) ?_ _ xs.length _ _ (by omega) ⟨0, by omega, by omega, rfl, rfl⟩
  rintro m e g again ⟨i, rfl, hi, rfl, rfl⟩ ih
  have hw : IntKind.i64.wrap ((i : Int) + 1) = ((i + 1 : Nat) : Int) := by rw [wrap_id (by omega) (by omega)]; rfl
  by_cases hlt : i < xs.length
  · obtain ⟨x, hx⟩ : ∃ x, xs[i]? = some x := ⟨_, List.getElem?_eq_getElem hlt⟩
    obtain ⟨b, o, c, cs, es, lv, an, rfl, _, hg, hle, hR⟩ := s.at' hx
    obtain ⟨b', o', c', cs', es', lv', an', rfl, _, hg', hle', hR'⟩ := t.at' hx
    have hR : (cs.drop (o + i * 1)).take 1 = [.int .i64 x] := hR
    have hR' : (cs'.drop (o' + i * 1)).take 1 = [.int .i64 x] := hR'
    rw [Nat.mul_one] at hR hR' hle hle'
    simp (disch := first | omega | (simp only [newRow_size, Array.size_setIfInBounds, Array.size_push]; done) | (simp only [newRow_size, Array.size_setIfInBounds, Array.size_push]; omega)) [l27_8, r27_4, hl, eqT, eqF, neT, neF, ltT, ltF, leT, leF, nltT, nltF, nleT, nleF, nneT, nneF, List.getElem?_cons_zero, List.getElem?_cons_succ, d27_5, hg, hR, hg', hR', r27_7, hw]
    exact ih (xs.length - (i + 1)) _ _ (by omega) ⟨i + 1, rfl, by omega, rfl, rfl⟩
  · have hii : i = xs.length := by omega
    subst hii
    simp (disch := first | omega | (simp only [newRow_size, Array.size_setIfInBounds, Array.size_push]; done) | (simp only [newRow_size, Array.size_setIfInBounds, Array.size_push]; omega)) [l27_8, r27_4, hl, eqT, eqF, neT, neF, ltT, ltF, leT, leF, nltT, nltF, nleT, nleF, nneT, nneF, List.getElem?_cons_zero, List.getElem?_cons_succ, r27_9]
    exact Ans.of ⟨rfl, rfl⟩

end Go.Proofs.Ytmenfnapbggglaa

/- The document's line: Spoil. -/
set_option linter.unusedSimpArgs false
set_option linter.unusedVariables false
namespace Go.Proofs.Ytmenfnapbggglaa
open Go.Ev

def U8C (h : H) (cs : List Value) (c : UInt8) : Prop := cs = [.int .u8 c.toNat]
theorem u8_any (h h' : H) (cs : List Value) (x : UInt8) (q : U8C h cs x) : U8C h' cs x := q

theorem u8_cells : ∀ {l : List UInt8} {cs : List Value}, cs.length = l.length → (∀ (i : Nat) (x : UInt8), l[i]? = some x → (cs.drop i).take 1 = [.int .u8 x.toNat]) → cs = l.map fun b => .int .u8 b.toNat := by
  intro l cs h1 h2
  apply List.ext_getElem (by simpa using h1)
  intro i hi hi'
  simp at hi'
  have := h2 i l[i] (List.getElem?_eq_getElem hi')
  rw [List.take_one, List.head?_drop, List.getElem?_eq_getElem hi] at this
  simp at this
  simp [this]

/-- A list of bytes that was built reads as a string. -/
theorem Bld.str {B : Nat} {h : H} {u : Value} {l : List UInt8} (s : Bld (fun c => B ≤ c) 1 U8C h u l) (hne : l ≠ []) : ∃ b, u = .slice (some ⟨b, 0, none⟩) l.length l.length ∧ rd h b 0 l.length = some (l.map fun b => .int .u8 b.toNat) := by
  rcases s with ⟨_, e⟩ | ⟨b, cs, an, e, hk, hb, hl, hi⟩
  · exact (hne e).elim
  · rw [Nat.mul_one] at hl
    have hcs := u8_cells hl (fun i x hx => by have := hi i x hx; rw [Nat.mul_one] at this; exact this)
    refine ⟨b, e, ?_⟩
    have hb' : h[b]? = some (.cells cs 1 true an) := hb
    simp only [rd, hb', Nat.zero_add, hl, Nat.le_refl, if_true, List.drop_zero]
    rw [List.take_of_length_le (by omega), hcs]

def spB : ACode := (.seq (.region r39_10 [1, 2, 3, 4, 8, 10, 11, 12, 13]) (.block 0 (.loop [1, 2, 3, 4, 8, 10, 11, 12, 13] l39_17)))

theorem turnB_get (t : ByteArray) (j : Nat) (turn : Int) (k : Nat) (c : UInt8) (hc : t.data[k]? = some c) : (turnB t j turn).data.toList[k]? = some (if k = j then xorB c turn else c) := by
  have hc' : t.data.toList[k]? = some c := by rw [Array.getElem?_toList]; exact hc
  have hkl := (List.getElem?_eq_some_iff.1 hc').1
  unfold turnB
  simp only [List.toList_toArray]
  by_cases h : k = j
  · subst h
    rw [if_pos rfl, List.getElem?_set_self hkl]
    congr 2
    rw [List.getD_eq_getElem?_getD, hc']; rfl
  · rw [if_neg h, List.getElem?_set_ne (fun e => h e.symm), hc']

set_option maxHeartbeats 1000000 in
theorem spB_spec {F : Nat} (hF : 1000 ≤ F) {g : H} {B mb : Nat} {m : Msg} {n at' turn : Int} {s4 s8 s10 : Value} (hm : hget g mb = some (.cells [.int .i64 m.fr, .int .i64 m.to, .string m.b] 0 true [])) (hmB : mb < B) (hB : B ≤ g.size) (ha : 0 ≤ at') (hsl : slen m.b ≠ 0) (hs6 : slen m.b ≤ 600)
    {kn kr : K} {ke : Nat → K} {Q : Value → H → Prop}
    (hk : ∀ g2 u (e : Env), (∀ b, b < B → hget g2 b = hget g b) → g.size ≤ g2.size → Bld (fun c => B ≤ c) 1 U8C g2 u (turnB m.b (at' % slen m.b).toNat turn).data.toList →
      Ans (kn ((1, .int .i64 n) :: (2, .int .i64 at') :: (3, .int .i64 turn) :: (4, s4) :: (8, s8) :: (10, s10) :: (11, .pointer (some ⟨mb, 0, none⟩)) :: (12, u) :: e) g2 []) Q) :
    Ans (evC F (cf F) spB kn ke kr [(1, .int .i64 n), (2, .int .i64 at'), (3, .int .i64 turn), (4, s4), (8, s8), (10, s10), (11, .pointer (some ⟨mb, 0, none⟩)), (12, .slice none 0 0)] g []) Q := by
  have c4z : ¬ ((slen m.b : Nat) : Int) = 0 := by omega
  obtain ⟨j, hj⟩ : ∃ j : Nat, (at' % (slen m.b : Int)).toNat = j := ⟨_, rfl⟩
  have htm : at'.tmod (slen m.b : Int) = (j : Int) := by
    rw [Int.tmod_eq_emod_of_nonneg (by omega)]
    have := Int.emod_nonneg at' c4z
    omega
  rw [hj] at hk
  have hlt' : (turnB m.b j turn).data.toList.length = slen m.b := by simp [turnB, Array.length_toList]
  simp (disch := first | omega | (simp only [newRow_size, Array.size_setIfInBounds, Array.size_push]; done) | (simp only [newRow_size, Array.size_setIfInBounds, Array.size_push]; omega)) [spB, r39_10]
  refine loop_rule (fun mm e g' => ∃ (k : Nat) (u : Value), mm = slen m.b - k ∧ k ≤ slen m.b ∧ e = [(1, .int .i64 n), (2, .int .i64 at'), (3, .int .i64 turn), (4, s4), (8, s8), (10, s10), (11, .pointer (some ⟨mb, 0, none⟩)), (12, u), (13, .int .i64 k)] ∧ (∀ b, b < B → hget g' b = hget g b) ∧ g.size ≤ g'.size ∧ Bld (fun c => B ≤ c) 1 U8C g' u ((turnB m.b j turn).data.toList.take k)) ?_ _ (slen m.b) _ _ (by omega) ⟨0, .slice none 0 0, by omega, by omega, rfl, fun _ _ => rfl, Nat.le_refl _, Bld.nil _ _ _ _⟩
  rintro mm e g' again ⟨k, u, rfl, hkl, rfl, kg, zg, bu⟩ ih
  have hw : IntKind.i64.wrap ((k : Int) + 1) = ((k + 1 : Nat) : Int) := by rw [wrap_id (by omega) (by omega)]; rfl
  have n0 := (kg mb hmB).trans hm
  have n0s := lt_of_get n0
  by_cases hlt : k < slen m.b
  · obtain ⟨c, hc⟩ : ∃ c, m.b.data[k]? = some c := ⟨m.b.data[k]'hlt, Array.getElem?_eq_getElem hlt⟩
    have hR := turnB_get m.b j turn k c hc
    by_cases hkj : k = j
    · subst hkj
      rw [if_pos rfl] at hR
      have kN := rowKept g' [.int .u8 (xorB c turn).toNat] 1 []
      have bN := bu.kept kN (by simp) (fun cs t _ q => q)
      simp (disch := first | omega | (simp only [newRow_size, Array.size_setIfInBounds, Array.size_push]; done) | (simp only [newRow_size, Array.size_setIfInBounds, Array.size_push]; omega)) [l39_17, r39_11, n0, eqT, eqF, neT, neF, ltT, ltF, leT, leF, nltT, nltF, nleT, nleF, nneT, nneF, List.getElem?_cons_zero, List.getElem?_cons_succ, r39_12, hc, r39_13, htm, c4z, r39_14, r39_15, srcOf, xorB_int]
      refine Ans.next (bN.push (x := xorB c turn) (bytes := 1) u8_any rfl (by rw [List.length_take]; omega) (by simp; omega) rfl) ?_
      rintro u' h5 ⟨b5, z5, g5, _⟩
      simp only [newRow_size] at z5
      simp (disch := first | omega | (simp only [newRow_size, Array.size_setIfInBounds, Array.size_push]; done) | (simp only [newRow_size, Array.size_setIfInBounds, Array.size_push]; omega)) [r39_16, hw]
      refine ih (slen m.b - (k + 1)) _ _ (by omega) ⟨k + 1, u', rfl, by omega, rfl, fun b hb => (g5 b hb).trans ((kN.get (by omega) (by simp)).trans (kg b hb)), by omega, ?_⟩
      rw [take_snoc hR]
      exact b5
    · rw [if_neg hkj] at hR
      have kN := rowKept g' [.int .u8 c.toNat] 1 []
      have bN := bu.kept kN (by simp) (fun cs t _ q => q)
      have hkj' : ¬ (k : Int) = (j : Int) := by omega
      simp (disch := first | omega | (simp only [newRow_size, Array.size_setIfInBounds, Array.size_push]; done) | (simp only [newRow_size, Array.size_setIfInBounds, Array.size_push]; omega)) [l39_17, r39_11, n0, eqT, eqF, neT, neF, ltT, ltF, leT, leF, nltT, nltF, nleT, nleF, nneT, nneF, List.getElem?_cons_zero, List.getElem?_cons_succ, r39_12, hc, r39_13, htm, c4z, hkj', r39_15, srcOf]
      refine Ans.next (bN.push (x := c) (bytes := 1) u8_any rfl (by rw [List.length_take]; omega) (by simp; omega) rfl) ?_
      rintro u' h5 ⟨b5, z5, g5, _⟩
      simp only [newRow_size] at z5
      simp (disch := first | omega | (simp only [newRow_size, Array.size_setIfInBounds, Array.size_push]; done) | (simp only [newRow_size, Array.size_setIfInBounds, Array.size_push]; omega)) [r39_16, hw]
      refine ih (slen m.b - (k + 1)) _ _ (by omega) ⟨k + 1, u', rfl, by omega, rfl, fun b hb => (g5 b hb).trans ((kN.get (by omega) (by simp)).trans (kg b hb)), by omega, ?_⟩
      rw [take_snoc hR]
      exact b5
  · have hii : k = slen m.b := by omega
    subst hii
    rw [List.take_of_length_le (by omega)] at bu
    simp (disch := first | omega | (simp only [newRow_size, Array.size_setIfInBounds, Array.size_push]; done) | (simp only [newRow_size, Array.size_setIfInBounds, Array.size_push]; omega)) [l39_17, r39_11, n0, eqT, eqF, neT, neF, ltT, ltF, leT, leF, nltT, nltF, nleT, nleF, nneT, nneF, List.getElem?_cons_zero, List.getElem?_cons_succ]
    exact hk g' u _ kg zg bu

end Go.Proofs.Ytmenfnapbggglaa

/- The document's line: Spoil: the flight copied, one message exchanged; Spoil itself. -/
set_option linter.unusedSimpArgs false
set_option linter.unusedVariables false
namespace Go.Proofs.Ytmenfnapbggglaa
open Go.Ev

def spF : ACode := (.seq (.region r39_20 [1, 4, 8, 10, 11, 15, 16]) (.block 2 (.loop [1, 4, 8, 10, 11, 15, 16] l39_27)))

theorem a39_cut : a39.body = (.seq (.region r39_0 [1, 2, 3, 4, 8]) (.seq (.region r39_1 [1, 2, 3, 4, 8, 10]) (.seq (.seq (.region r39_2 [1, 2, 3, 4, 8, 10, 22]) (.cond (.tmp 22) (.seq (.region r39_3 [8, 9]) .ret) .skip)) (.seq (.region r39_4 [1, 2, 3, 4, 8, 10, 11]) (.seq (.seq (.region r39_5 [1, 2, 3, 4, 8, 10, 11, 44]) (.cond (.tmp 44) (.seq (.region r39_6 [8, 9]) .ret) .skip)) (.seq (.seq (.region r39_7 [1, 2, 3, 4, 8, 10, 11, 51]) (.cond (.tmp 51) (.seq (.region r39_8 [8, 9]) .ret) .skip)) (.seq (.region r39_9 [1, 2, 3, 4, 8, 10, 11, 12]) (.seq spB (.seq (.region r39_18 [1, 4, 8, 10, 11]) (.seq (.region r39_19 [1, 4, 8, 10, 11, 15]) (.seq spF (.seq (.region r39_28 [8, 9]) .ret)))))))))))) := rfl

set_option maxHeartbeats 1000000 in
theorem spF_spec {F : Nat} (hF : 1000 ≤ F) {g : H} {lb mb nb : Nat} {v : Value} {m : Msg} {n last : Int} {nn : Bool} {i : Nat} {fl : Flight} {okF : Nat → Prop} {s8 : Value}
    (hlb : hget g lb = some (.cells [v, .int .i64 last, .bool nn] 0 true [])) (hmb : hget g mb = some (.cells [.int .i64 m.fr, .int .i64 m.to, .string m.b] 0 true [])) (hnb : hget g nb = some (.cells [.slice none 0 0, .int .i64 last, .bool false] 0 true []))
    (n1 : lb ≠ nb) (n2 : mb ≠ nb) (sf : SlR okF 5 PclC g v fl) (hokF : ∀ c, okF c → c ≠ nb ∧ c < g.size) (hl : fl.length ≤ 256) (hi : i < fl.length)
    {kn kr : K} {ke : Nat → K} {Q : Value → H → Prop}
    (hk : ∀ g2 u (e : Env), (∀ b, b < g.size → b ≠ nb → hget g2 b = hget g b) → g.size ≤ g2.size → hget g2 nb = some (.cells [u, .int .i64 last, .bool false] 0 true []) → Bld (fun c => g.size ≤ c) 5 PclC g2 u (fl.set i (n, m, true)) →
      Ans (kn ((1, .int .i64 n) :: (4, .pointer (some ⟨lb, 0, none⟩)) :: (8, s8) :: (10, .int .i64 i) :: (11, .pointer (some ⟨mb, 0, none⟩)) :: (15, .pointer (some ⟨nb, 0, none⟩)) :: e) g2 []) Q) :
    Ans (evC F (cf F) spF kn ke kr [(1, .int .i64 n), (4, .pointer (some ⟨lb, 0, none⟩)), (8, s8), (10, .int .i64 i), (11, .pointer (some ⟨mb, 0, none⟩)), (15, .pointer (some ⟨nb, 0, none⟩))] g []) Q := by
  have hlbs := lt_of_get hlb
  have hmbs := lt_of_get hmb
  have hnbs := lt_of_get hnb
  have hln := sf.len
  have hsl : (fl.set i (n, m, true)).length = fl.length := by simp
  simp (disch := first | omega | (simp only [newRow_size, Array.size_setIfInBounds, Array.size_push]; done) | (simp only [newRow_size, Array.size_setIfInBounds, Array.size_push]; omega)) [spF, r39_20]
  refine loop_rule (fun mm e g' => ∃ (k : Nat) (u : Value), mm = fl.length - k ∧ k ≤ fl.length ∧ e = [(1, .int .i64 n), (4, .pointer (some ⟨lb, 0, none⟩)), (8, s8), (10, .int .i64 i), (11, .pointer (some ⟨mb, 0, none⟩)), (15, .pointer (some ⟨nb, 0, none⟩)), (16, .int .i64 k)] ∧ (∀ b, b < g.size → b ≠ nb → hget g' b = hget g b) ∧ g.size ≤ g'.size ∧ hget g' nb = some (.cells [u, .int .i64 last, .bool false] 0 true []) ∧ Bld (fun c => g.size ≤ c) 5 PclC g' u ((fl.set i (n, m, true)).take k)) ?_ _ fl.length _ _ (by omega) ⟨0, .slice none 0 0, by omega, by omega, rfl, fun _ _ _ => rfl, Nat.le_refl _, hnb, Bld.nil _ _ _ _⟩
  rintro mm e g' again ⟨k, u, rfl, hkl, rfl, kg, zg, n3, bu⟩ ih
  have hw : IntKind.i64.wrap ((k : Int) + 1) = ((k + 1 : Nat) : Int) := by rw [wrap_id (by omega) (by omega)]; rfl
  have q0 := (kg lb hlbs n1).trans hlb
  have q1 := (kg mb hmbs n2).trans hmb
  have sf' : SlR okF 5 PclC g' v fl := SlF.imp sf (fun _ _ q => q) (fun b zs hb hz => (cel_congr (kg b (hokF b hb).2 (hokF b hb).1)).trans hz)
  by_cases hlt : k < fl.length
  · obtain ⟨x, hx⟩ : ∃ x, fl[k]? = some x := ⟨_, List.getElem?_eq_getElem hlt⟩
    obtain ⟨b, o, c, csx, es, lv, an, rfl, hk', hg, hle, hpc⟩ := sf'.at' hx
    obtain ⟨e5, e1, e3, e4⟩ := pc_at hpc hle
    have hgs := lt_of_get hg
    have step : ∀ (y : Int × Parcel), (fl.set i (n, m, true))[k]? = some y →
        Ans (evR (cf F) r39_25 [(1, .int .i64 n), (4, .pointer (some ⟨lb, 0, none⟩)), (8, s8), (10, .int .i64 i), (11, .pointer (some ⟨mb, 0, none⟩)), (15, .pointer (some ⟨nb, 0, none⟩)), (16, .int .i64 k), (17, .pointer (some ⟨g'.size, 0, none⟩))] (Ev.newRow g' [.int .i64 y.1, .int .i64 y.2.1.fr, .int .i64 y.2.1.to, .string y.2.1.b, .bool y.2.2] 0 []) (evC F (cf F) (.region r39_26 [1, 4, 8, 10, 11, 15, 16]) (keepK [1, 4, 8, 10, 11, 15, 16] again) (putK 2 kn ke) kr) [1, 4, 8, 10, 11, 15, 16] []) Q := by
      intro y hy
      have hy' : (fl.set i (n, m, true)).take (k + 1) = (fl.set i (n, m, true)).take k ++ [y] := take_snoc hy
      generalize hyy : [Value.int .i64 y.1, .int .i64 y.2.1.fr, .int .i64 y.2.1.to, .string y.2.1.b, .bool y.2.2] = yy
      have kA := rowKept g' yy 0 []
      have hA : hget (Ev.newRow g' yy 0 []) g'.size = some (.cells yy 0 true []) := by simp
      have zA : (Ev.newRow g' yy 0 []).size = g'.size + 1 := by simp
      generalize Ev.newRow g' yy 0 [] = gA at kA hA zA ⊢
      subst hyy
      have r3 := (kA.get (lt_of_get n3) (by simp)).trans n3
      have hAs := lt_of_get hA
      have r3s := lt_of_get r3
      simp (disch := first | omega | (simp only [newRow_size, Array.size_setIfInBounds, Array.size_push]; done) | (simp only [newRow_size, Array.size_setIfInBounds, Array.size_push]; omega)) [r39_25, r3, hA, srcOf]
      have kB := rowKept gA [.int .i64 y.1, .int .i64 y.2.1.fr, .int .i64 y.2.1.to, .string y.2.1.b, .bool y.2.2] 5 []
      have bN := (bu.kept kA (by simp) (fun cs t _ q => q)).kept kB (by simp) (fun cs t _ q => q)
      refine Ans.next (bN.push (x := y) (bytes := 48) pcl_any rfl (by rw [List.length_take]; omega) (by simp; omega) rfl) ?_
      rintro u' h5 ⟨b5, z5, g5, _⟩
      have ou' := b5.sl.one
      have vu' := b5.sl.vc
      simp only [oneCell] at ou'
      simp only [vcells] at vu'
      simp only [newRow_size] at z5
      have w3 := (g5 nb hnbs).trans ((kB.get r3s (by simp)).trans r3)
      simp (disch := first | omega | (simp only [newRow_size, Array.size_setIfInBounds, Array.size_push]; done) | (simp only [newRow_size, Array.size_setIfInBounds, Array.size_push]; omega)) [w3, ou', vu', r39_26, hw]
      refine ih (fl.length - (k + 1)) _ _ (by omega) ⟨k + 1, u', rfl, by omega, rfl, ?_, by simp; omega, by simp (disch := first | omega | (simp only [newRow_size, Array.size_setIfInBounds, Array.size_push]; done) | (simp only [newRow_size, Array.size_setIfInBounds, Array.size_push]; omega)) [], ?_⟩
      · intro b hb hbn
        rw [set_other (fun e => hbn e.symm)]
        exact (g5 b hb).trans ((kB.get (by omega) (by simp)).trans ((kA.get (by omega) (by simp)).trans (kg b hb hbn)))
      · rw [hy']
        refine b5.kept (L := [nb]) ⟨by simp, fun c hc hn => set_other (fun e => hn (by simp [e]))⟩ ?_ (fun cs t _ q => q)
        intro c hc
        simp at hc
        omega
    by_cases hki : k = i
    · subst hki
      have := step (n, m, true) (by rw [List.getElem?_set_self hi])
      simp (disch := first | omega | (simp only [newRow_size, Array.size_setIfInBounds, Array.size_push]; done) | (simp only [newRow_size, Array.size_setIfInBounds, Array.size_push]; omega)) [l39_27, r39_21, q0, hln, eqT, eqF, neT, neF, ltT, ltF, leT, leF, nltT, nltF, nleT, nleF, nneT, nneF, List.getElem?_cons_zero, List.getElem?_cons_succ, r39_22, hg, e5, r39_23, r39_24, q1]
      exact this
    · have hki' : ¬ (k : Int) = (i : Int) := by omega
      have := step x (by rw [List.getElem?_set_ne (fun e => hki e.symm)]; exact hx)
      simp (disch := first | omega | (simp only [newRow_size, Array.size_setIfInBounds, Array.size_push]; done) | (simp only [newRow_size, Array.size_setIfInBounds, Array.size_push]; omega)) [l39_27, r39_21, q0, hln, eqT, eqF, neT, neF, ltT, ltF, leT, leF, nltT, nltF, nleT, nleF, nneT, nneF, List.getElem?_cons_zero, List.getElem?_cons_succ, r39_22, hg, e5, r39_23, hki']
      exact this
  · have hii : k = fl.length := by omega
    subst hii
    rw [List.take_of_length_le (by omega)] at bu
    simp (disch := first | omega | (simp only [newRow_size, Array.size_setIfInBounds, Array.size_push]; done) | (simp only [newRow_size, Array.size_setIfInBounds, Array.size_push]; omega)) [l39_27, r39_21, q0, hln, eqT, eqF, neT, neF, ltT, ltF, leT, leF, nltT, nltF, nleT, nleF, nneT, nneF, List.getElem?_cons_zero, List.getElem?_cons_succ]
    exact hk g' u _ kg zg n3 bu

end Go.Proofs.Ytmenfnapbggglaa

/- The document's line: Spoil itself. -/
set_option linter.unusedSimpArgs false
set_option linter.unusedVariables false
namespace Go.Proofs.Ytmenfnapbggglaa
open Go.Ev

/-- Spoil. -/
def spoilR (n at' turn : Int) (fl : Flight) : Flight × Int := match lk n fl 0 with
  | none => (fl, 160)
  | some (i, p) => if at' < 0 ∨ turn < 1 ∨ 255 < turn ∨ slen p.1.b = 0 then (fl, 1)
    else if p.2 = true then (fl, 161)
    else (fl.set i (n, ⟨p.1.fr, p.1.to, turnB p.1.b (at' % slen p.1.b).toNat turn⟩, true), 0)

def SpoilPost (ok : Nat → Prop) (h : H) (nn : Bool) (last : Int) (r : Flight × Int) (v : Value) (h' : H) : Prop := ∃ cs, v = .tuple ⟨[.agg ⟨cs⟩, .int .i64 r.2]⟩ ∧ RefL ok h' cs r.1 last nn ∧ Kept h h' []

theorem ba_empty (b : ByteArray) : (b == ⟨#[]⟩) = decide (slen b = 0) := by
  by_cases h : slen b = 0
  · have : b = ⟨#[]⟩ := by
      obtain ⟨⟨l⟩⟩ := b
      have : l.length = 0 := h
      rw [List.length_eq_zero_iff.1 this]
    subst this
    rfl
  · rw [decide_eq_false h]
    refine ba_ne' fun e => h ?_
    rw [e]; rfl
where
  ba_ne' {a c : ByteArray} (h : a ≠ c) : (a == c) = false := by
    cases e : a == c with
    | false => rfl
    | true => exact (h ((MapKept.bytes_beq a c).1 e)).elim

theorem Bld.strC {B : Nat} {h : H} {u : Value} {l : List UInt8} (s : Bld (fun c => B ≤ c) 1 U8C h u l) (hne : l ≠ []) : ∃ b cs an, u = .slice (some ⟨b, 0, none⟩) l.length l.length ∧ hget h b = some (.cells cs 1 true an) ∧ cs = l.map fun b => .int .u8 b.toNat := by
  rcases s with ⟨_, e⟩ | ⟨b, cs, an, e, hk, hb, hl, hi⟩
  · exact (hne e).elim
  · rw [Nat.mul_one] at hl
    have hcs := u8_cells hl (fun i x hx => by have := hi i x hx; rw [Nat.mul_one] at this; exact this)
    exact ⟨b, cs, an, e, hb, hcs⟩

set_option maxHeartbeats 2000000 in
theorem refSpoil_spec {F : Nat} (hF : 2000 ≤ F) {ok : Nat → Prop} {h : H} {cs : List Value} {fl : Flight} {last : Int} {nn : Bool} (s : RefL ok h cs fl last nn) (hok : ∀ c, h.size ≤ c → ok c) (hl : fl.length ≤ 256) (hnn : nn = true → fl = []) (hsl : ∀ q ∈ fl, slen q.2.1.b ≤ 600) (n at' turn : Int) :
    Ans (cf F 39 [.agg ⟨cs⟩, .int .i64 n, .int .i64 at', .int .i64 turn] h) (SpoilPost ok h nn last (spoilR n at' turn fl)) := by
  generalize hQ : SpoilPost ok h nn last (spoilR n at' turn fl) = Q
  obtain ⟨F, rfl⟩ : ∃ G, F = G + 1 := ⟨F - 1, by omega⟩
  obtain ⟨v, hcs, sv⟩ := id s
  have ov := sv.one
  simp only [oneCell] at ov
  have hres : a39.results = [.cellN 8 3, .tmp 9] := rfl
  rw [cf_step (a := a39) rfl rfl (by simp [a39]), a39_cut, hres, hcs]
  simp (disch := first | omega | (simp only [newRow_size, Array.size_setIfInBounds, Array.size_push]; done) | (simp only [newRow_size, Array.size_setIfInBounds, Array.size_push]; omega)) [r39_0, ov, r39_1]
  generalize hz : [Value.slice none 0 0, .int .i64 0, .bool false] = zz
  rw [← hcs]
  have kR : Kept h (Ev.newRow (Ev.newRow h cs 0 []) zz 0 []) [] := (rowKept _ _ _ _).trans (rowKept _ _ _ _)
  have m0 : hget (Ev.newRow (Ev.newRow h cs 0 []) zz 0 []) h.size = some (.cells cs 0 true []) := by simp (disch := first | omega | (simp only [newRow_size, Array.size_setIfInBounds, Array.size_push]; done) | (simp only [newRow_size, Array.size_setIfInBounds, Array.size_push]; omega)) []
  have m1 : hget (Ev.newRow (Ev.newRow h cs 0 []) zz 0 []) (h.size + 1) = some (.cells zz 0 true []) := by simp (disch := first | omega | (simp only [newRow_size, Array.size_setIfInBounds, Array.size_push]; done) | (simp only [newRow_size, Array.size_setIfInBounds, Array.size_push]; omega)) []
  have zR : (Ev.newRow (Ev.newRow h cs 0 []) zz 0 []).size = h.size + 2 := by simp
  generalize Ev.newRow (Ev.newRow h cs 0 []) zz 0 [] = g at kR m0 m1 zR ⊢
  subst hz
  have sg : RefL (fun c => ok c ∧ c < h.size) g cs fl last nn := s.imp (fun c hc q => ⟨q, hc⟩) (keep_of kR.c (by simp))
  refine Ans.next (find_spec (F := F) (by omega) sg hl n) ?_
  rintro u g1 ⟨rfl, k1⟩
  have y1 := k1.1
  have n0 := (k1.get (by omega) (by simp)).trans m0
  have n1 := (k1.get (by omega) (by simp)).trans m1
  have kh1 : Kept h g1 [] := kR.trans k1
  have sg1 := sg.imp (ok' := fun c => ok c ∧ c < h.size) (fun _ _ q => q) (keep_of k1.c (by simp))
  have fin : ∀ (g' : H) (cs' : List Value) (r : Flight × Int) (ok' : Nat → Prop), RefL ok' g' cs' r.1 last nn → (∀ c, ok' c → ok c ∧ c ≠ h.size + 1) → Kept h g' [] → h.size + 2 ≤ g'.size → spoilR n at' turn fl = r →
      Ans (some (Value.tuple ⟨[.agg ⟨cs'⟩, .int .i64 r.2]⟩, g'.setIfInBounds (h.size + 1) (.cells cs' 0 true []))) Q := by
    intro g' cs' r ok' s' hok' k' hz e
    subst hQ
    rw [e]
    have k6 : Kept g' (g'.setIfInBounds (h.size + 1) (.cells cs' 0 true [])) [h.size + 1] := ⟨by simp, fun c hc hn => set_other (fun e => hn (by simp [e]))⟩
    exact Ans.of ⟨cs', rfl, s'.imp (fun c _ q => (hok' c q).1) (keep_of k6.c (by intro c hc; simp at hc; subst hc; exact fun q => (hok' _ q).2 rfl)), ⟨by have := k6.1; have := k'.1; omega, fun c hc _ => (k6.get (by have := k'.1; omega) (by simp; omega)).trans (k'.get hc (by simp))⟩⟩
  have n0' := n0
  rw [hcs] at n0'
  cases hlk : lk n fl 0 with
  | none =>
    have hd : spoilR n at' turn fl = (fl, 160) := by unfold spoilR; rw [hlk]
    simp (disch := first | omega | (simp only [newRow_size, Array.size_setIfInBounds, Array.size_push]; done) | (simp only [newRow_size, Array.size_setIfInBounds, Array.size_push]; omega)) [fd_none hlk, r39_2, eqT, eqF, neT, neF, ltT, ltF, leT, leF, nltT, nltF, nleT, nleF, nneT, nneF, List.getElem?_cons_zero, List.getElem?_cons_succ, r39_3, n0', n1, ov]
    rw [← hcs]
    exact fin g1 cs (fl, 160) _ sg1 (fun c q => ⟨q.1, by omega⟩) kh1 (by omega) hd
  | some q =>
    obtain ⟨i, p⟩ := q
    obtain ⟨_, hp⟩ := lk_get hlk
    rw [Nat.sub_zero] at hp
    have hil := (List.getElem?_eq_some_iff.1 hp).1
    have hps := hsl _ (List.mem_of_getElem? hp)
    have hnf : nn = false := by
      cases nn with
      | false => rfl
      | true => rw [hnn rfl] at hlk; simp [lk] at hlk
    obtain ⟨v1, e1, sv1⟩ := id sg1
    rw [hcs] at e1
    injection e1 with e1
    subst e1
    obtain ⟨b, o, c, csx, es, lv, an, hv, hk, hg, hle, hpc⟩ := sv1.at' hp
    obtain ⟨e5, e1, e3, e4⟩ := pc_at hpc hle
    have hgs := lt_of_get hg
    rw [hv] at n0'
    simp (disch := first | omega | (simp only [newRow_size, Array.size_setIfInBounds, Array.size_push]; done) | (simp only [newRow_size, Array.size_setIfInBounds, Array.size_push]; omega)) [fd_some hlk, r39_2, eqT, eqF, neT, neF, ltT, ltF, leT, leF, nltT, nltF, nleT, nleF, nneT, nneF, List.getElem?_cons_zero, List.getElem?_cons_succ, r39_4, n0', hg, e3]
    have kN := rowKept g1 [.int .i64 p.1.fr, .int .i64 p.1.to, .string p.1.b] 0 []
    have hmb : hget (Ev.newRow g1 [.int .i64 p.1.fr, .int .i64 p.1.to, .string p.1.b] 0 []) g1.size = some (.cells [.int .i64 p.1.fr, .int .i64 p.1.to, .string p.1.b] 0 true []) := by simp
    have zN : (Ev.newRow g1 [.int .i64 p.1.fr, .int .i64 p.1.to, .string p.1.b] 0 []).size = g1.size + 1 := by simp
    generalize Ev.newRow g1 [.int .i64 p.1.fr, .int .i64 p.1.to, .string p.1.b] 0 [] = g2 at kN hmb zN ⊢
    have hmbs := lt_of_get hmb
    have p0 := (kN.get (by omega) (by simp)).trans n0'
    have p1 := (kN.get (by omega) (by simp)).trans n1
    have pg := (kN.get hgs (by simp)).trans hg
    have kh2 : Kept h g2 [] := kh1.trans kN
    have sg2 := sg1.imp (ok' := fun c => ok c ∧ c < h.size) (fun _ _ q => q) (keep_of kN.c (by simp))
    have bad : (at' < 0 ∨ turn < 1 ∨ 255 < turn ∨ slen p.1.b = 0) → Ans (some (Value.tuple ⟨[.agg ⟨[.slice (some ⟨b, o, none⟩) fl.length c, .int .i64 last, .bool nn]⟩, .int .i64 1]⟩, g2.setIfInBounds (h.size + 1) (.cells [.slice (some ⟨b, o, none⟩) fl.length c, .int .i64 last, .bool nn] 0 true []))) Q := by
      intro hbad
      have hd : spoilR n at' turn fl = (fl, 1) := by unfold spoilR; rw [hlk]; simp only; rw [if_pos hbad]
      rw [← hv, ← hcs]
      exact fin g2 cs (fl, 1) _ sg2 (fun c q => ⟨q.1, by omega⟩) kh2 (by omega) hd
    have hbe := ba_empty p.1.b
    by_cases c1 : at' < 0
    · simp (disch := first | omega | (simp only [newRow_size, Array.size_setIfInBounds, Array.size_push]; done) | (simp only [newRow_size, Array.size_setIfInBounds, Array.size_push]; omega)) [r39_5, c1, eqT, eqF, neT, neF, ltT, ltF, leT, leF, nltT, nltF, nleT, nleF, nneT, nneF, List.getElem?_cons_zero, List.getElem?_cons_succ, r39_6, p0, p1]
      exact bad (.inl c1)
    by_cases c2 : turn < 1
    · simp (disch := first | omega | (simp only [newRow_size, Array.size_setIfInBounds, Array.size_push]; done) | (simp only [newRow_size, Array.size_setIfInBounds, Array.size_push]; omega)) [r39_5, c1, c2, eqT, eqF, neT, neF, ltT, ltF, leT, leF, nltT, nltF, nleT, nleF, nneT, nneF, List.getElem?_cons_zero, List.getElem?_cons_succ, r39_6, p0, p1]
      exact bad (.inr (.inl c2))
    by_cases c3 : 255 < turn
    · simp (disch := first | omega | (simp only [newRow_size, Array.size_setIfInBounds, Array.size_push]; done) | (simp only [newRow_size, Array.size_setIfInBounds, Array.size_push]; omega)) [r39_5, c1, c2, c3, eqT, eqF, neT, neF, ltT, ltF, leT, leF, nltT, nltF, nleT, nleF, nneT, nneF, List.getElem?_cons_zero, List.getElem?_cons_succ, r39_6, p0, p1]
      exact bad (.inr (.inr (.inl c3)))
    by_cases c4 : slen p.1.b = 0
    · rw [decide_eq_true c4] at hbe
      simp (disch := first | omega | (simp only [newRow_size, Array.size_setIfInBounds, Array.size_push]; done) | (simp only [newRow_size, Array.size_setIfInBounds, Array.size_push]; omega)) [r39_5, c1, c2, c3, hmb, hbe, eqT, eqF, neT, neF, ltT, ltF, leT, leF, nltT, nltF, nleT, nleF, nneT, nneF, List.getElem?_cons_zero, List.getElem?_cons_succ, r39_6, p0, p1]
      exact bad (.inr (.inr (.inr c4)))
    rw [decide_eq_false c4] at hbe
    have hnb : ¬ (at' < 0 ∨ turn < 1 ∨ 255 < turn ∨ slen p.1.b = 0) := by omega
    cases c5 : p.2 with
    | true =>
      have hd : spoilR n at' turn fl = (fl, 161) := by unfold spoilR; rw [hlk]; simp only; rw [if_neg hnb, if_pos c5]
      rw [c5] at e4
      simp (disch := first | omega | (simp only [newRow_size, Array.size_setIfInBounds, Array.size_push]; done) | (simp only [newRow_size, Array.size_setIfInBounds, Array.size_push]; omega)) [r39_5, c1, c2, c3, hmb, hbe, eqT, eqF, neT, neF, ltT, ltF, leT, leF, nltT, nltF, nleT, nleF, nneT, nneF, List.getElem?_cons_zero, List.getElem?_cons_succ, r39_7, p0, pg, e4, r39_8, p1]
      rw [← hv, ← hcs]
      exact fin g2 cs (fl, 161) _ sg2 (fun c q => ⟨q.1, by omega⟩) kh2 (by omega) hd
    | false =>
      have hd : spoilR n at' turn fl = (fl.set i (n, ⟨p.1.fr, p.1.to, turnB p.1.b (at' % slen p.1.b).toNat turn⟩, true), 0) := by unfold spoilR; rw [hlk]; simp only; rw [if_neg hnb, if_neg (by simp [c5])]
      rw [c5] at e4
      simp (disch := first | omega | (simp only [newRow_size, Array.size_setIfInBounds, Array.size_push]; done) | (simp only [newRow_size, Array.size_setIfInBounds, Array.size_push]; omega)) [r39_5, c1, c2, c3, hmb, hbe, eqT, eqF, neT, neF, ltT, ltF, leT, leF, nltT, nltF, nleT, nleF, nneT, nneF, List.getElem?_cons_zero, List.getElem?_cons_succ, r39_7, p0, pg, e4, r39_9]
      refine spB_spec (F := F) (B := g2.size) (by omega) hmb hmbs (Nat.le_refl _) (by omega) c4 hps ?_
      intro g3 u e kg3 z3 bu
      generalize hT : turnB p.1.b (at' % slen p.1.b).toNat turn = T at bu hd
      have hTl : T.data.toList.length = slen p.1.b := by rw [← hT]; simp [turnB, Array.length_toList]
      obtain ⟨ub, csT, anT, rfl, hub, hct⟩ := Bld.strC bu (by intro e; rw [e] at hTl; simp at hTl; omega)
      have hcl : csT.length = slen T := by rw [hct, List.length_map]; rfl
      have htk : csT.take (slen T) = csT := List.take_of_length_le (by omega)
      have hst : strOf csT = some T.data.toList := by rw [hct]; exact strOf_bytes T.data.toList
      have r0 := (kg3 h.size (by omega)).trans p0
      have r1 := (kg3 (h.size + 1) (by omega)).trans p1
      have rm := (kg3 g1.size (by omega)).trans hmb
      have hTn : ¬ T.data.toList.length = 0 := by omega
      have hTl' : T.data.toList.length = slen T := rfl
      rw [hTl'] at hTn
      simp (disch := first | omega | (simp only [newRow_size, Array.size_setIfInBounds, Array.size_push]; done) | (simp only [newRow_size, Array.size_setIfInBounds, Array.size_push]; omega)) [r39_18, hTn, hub, hcl, htk, hst, rm, r39_19, r0]
      generalize hgg : Ev.newRow (Array.setIfInBounds g3 g1.size (.cells [.int .i64 p.1.fr, .int .i64 p.1.to, .string ⟨T.data⟩] 0 true [])) [.slice none 0 0, .int .i64 last, .bool false] 0 [] = gg
      have rms := lt_of_get rm
      have zz : gg.size = g3.size + 1 := by rw [← hgg]; simp
      have t1 : hget gg g1.size = some (.cells [.int .i64 p.1.fr, .int .i64 p.1.to, .string T] 0 true []) := by rw [← hgg]; simp (disch := first | omega | (simp only [newRow_size, Array.size_setIfInBounds, Array.size_push]; done) | (simp only [newRow_size, Array.size_setIfInBounds, Array.size_push]; omega)) []
      have t2 : hget gg g3.size = some (.cells [.slice none 0 0, .int .i64 last, .bool false] 0 true []) := by rw [← hgg]; simp
      have t3 : ∀ b, b < g2.size → b ≠ g1.size → hget gg b = hget g3 b := by
        intro b hb hn
        rw [← hgg, newRow_old (by simp; omega)]
        exact set_other fun e => hn e.symm
      clear hgg
      have t0 := (t3 h.size (by omega) (by omega)).trans r0
      have t5 := (t3 (h.size + 1) (by omega) (by omega)).trans r1
      have sgg : SlR (fun c => ok c ∧ c < h.size) 5 PclC gg (.slice (some ⟨b, o, none⟩) fl.length c) fl := by
        have s2 := sv1
        rw [hv] at s2
        refine SlF.imp s2 (fun _ _ q => q) (fun b zs hb hz => (cel_congr ?_).trans hz)
        have hb2 : b < h.size := hb.2
        rw [t3 b (by omega) (by omega), kg3 b (by omega), kN.get (by omega) (by simp)]
      refine spF_spec (F := F) (m := ⟨p.1.fr, p.1.to, T⟩) (by omega) t0 t1 t2 (by omega) (by omega) sgg (fun c q => by have := q.2; omega) hl hil ?_
      intro g6 w e' kg6 z6 n6 bw
      have ow := bw.sl.one
      simp only [oneCell] at ow
      have u1 := (kg6 (h.size + 1) (by omega) (by omega)).trans t5
      simp (disch := first | omega | (simp only [newRow_size, Array.size_setIfInBounds, Array.size_push]; done) | (simp only [newRow_size, Array.size_setIfInBounds, Array.size_push]; omega)) [r39_28, n6, ow, u1]
      rw [← hnf]
      refine fin g6 [w, .int .i64 last, .bool nn] _ (fun c => gg.size ≤ c) ⟨w, rfl, bw.sl⟩ (fun c q => ⟨hok c (by omega), by omega⟩) ?_ (by omega) hd
      refine ⟨by omega, fun c hc _ => ?_⟩
      rw [kg6 c (by omega) (by omega), t3 c (by omega) (by omega), kg3 c (by omega)]
      exact kh2.get hc (by simp)

end Go.Proofs.Ytmenfnapbggglaa

/- The desk: how its one list lies in memory (Dk0, Dk2, Dk3 of the queue's seat, what is needed of them). -/
set_option linter.unusedSimpArgs false
set_option linter.unusedVariables false
namespace Go.Ev
/-- A list at the beginning of its block, with room; an: what it grew out of. -/
def Lay (w : Nat) (h : H) (v : Value) (n b : Nat) (cs : List Value) (an : List Nat) : Prop :=
  ∃ c, v = .slice (some ⟨b, 0, none⟩) n c ∧ hget h b = some (.cells cs w true an) ∧ cs.length = c * w ∧ n ≤ c

theorem kill_kept : ∀ (l : List Nat) (h : H), Kept h (kill h l) l ∧ (kill h l).size = h.size
  | [], h => ⟨Kept.refl _ _, rfl⟩
  | a :: r, h => by
    obtain ⟨k, z⟩ := kill_kept r (h.setIfInBounds a .dead)
    refine ⟨⟨by show h.size ≤ (kill (h.setIfInBounds a .dead) r).size; rw [z]; simp, fun b hb hn => ?_⟩, by show (kill (h.setIfInBounds a .dead) r).size = h.size; rw [z]; simp⟩
    simp only [List.mem_cons, not_or] at hn
    have n1 : ¬ a = b := fun e => hn.1 e.symm
    exact (k.get (by simpa using hb) hn.2).trans (set_other n1)

/-- One element put behind: in place, or in a new block. -/
theorem Lay.app {w : Nat} {h : H} {v : Value} {n b : Nat} {cs : List Value} {an : List Nat} {bytes : Nat} (s : Lay w h v n b cs an) (hba : b ∉ an) {new : List Value} (hn : new.length = w) (ho : new.all oneCell = true) (hb : (n + 1) * bytes ≤ 2 ^ 47) :
    Ans (appendTo h w bytes v 1 new) fun v' h' => ∃ b' cs' an', Lay w h' v' (n + 1) b' cs' an' ∧ cs'.take ((n + 1) * w) = cs.take (n * w) ++ new ∧ (b' = b ∧ an' = [] ∧ h'.size = h.size ∨ b' = h.size ∧ an' = b :: an ∧ h'.size = h.size + 1) ∧ Kept h h' (b :: an) := by
  obtain ⟨c, rfl, hg, hl, hc⟩ := s
  have hbs := lt_of_get hg
  have h1 : (n + 1) * w = n * w + w := Nat.succ_mul n w
  by_cases hroom : n + 1 ≤ c
  · have h2 : (n + 1) * w ≤ c * w := Nat.mul_le_mul_right _ hroom
    have hlen : (cs.take (n * w)).length = n * w := by rw [List.length_take]; omega
    obtain ⟨kk, zk⟩ := kill_kept an h
    have hk : hget (kill h an) b = some (.cells cs w true an) := (kk.get hbs hba).trans hg
    refine ⟨.slice (some ⟨b, 0, none⟩) (n + 1) c, (kill h an).setIfInBounds b (.cells (cs.take (n * w) ++ new ++ cs.drop (n * w + w)) w true []), ?_, b, cs.take (n * w) ++ new ++ cs.drop (n * w + w), [], ⟨c, rfl, by simp [hbs, zk], ?_, hroom⟩, ?_, .inl ⟨rfl, rfl, by simp [zk]⟩, ⟨by simp [zk], fun d hd hn' => ?_⟩⟩
    · have : n * w + w ≤ cs.length := by omega
      simp [appendTo, hroom, wr, hg, hn, this]
      rw [if_pos (by simpa [oneCell] using ho)]
    · simp [hn]; omega
    · rw [h1, List.take_append_of_le_length (by simp [hn]; omega), List.take_of_length_le (by simp [hn]; omega)]
    · simp only [List.mem_cons, not_or] at hn'
      have n1 : ¬ b = d := fun e => hn'.1 e.symm
      rw [set_other n1]
      exact kk.get hd hn'.2
  · have hnc : n = c := by omega
    subst hnc
    have e2 : cs.take (n * w) = cs := List.take_of_length_le (by omega)
    refine ⟨.slice (some ⟨h.size, 0, none⟩) (n + 1) (n + 1), newRow (h.setIfInBounds b (.cells cs w false an)) (cs ++ new) w (b :: an), ?_, h.size, cs ++ new, b :: an, ⟨n + 1, rfl, by simp, by simp [hn]; omega, Nat.le_refl _⟩, ?_, .inr ⟨rfl, rfl, by simp⟩, ⟨by simp, fun d hd hn' => ?_⟩⟩
    · have hb' : (n + 1) * bytes ≤ 140737488355328 := by simpa using hb
      have hnl : ¬ n + 1 ≤ n := by omega
      have hle : n * w ≤ cs.length := by omega
      simp [appendTo, hb', hg, hl, hnl, e2, hle]
    · rw [e2, List.take_of_length_le (by simp [hn]; omega)]
    · simp only [List.mem_cons, not_or] at hn'
      have n1 : ¬ b = d := fun e => hn'.1 e.symm
      simp [hd, n1]

theorem Lay.kept {w : Nat} {h h' : H} {v : Value} {n b : Nat} {cs : List Value} {an L : List Nat} (s : Lay w h v n b cs an) (k : Kept h h' L) (hb : b ∉ L) : Lay w h' v n b cs an := by
  obtain ⟨c, e1, e2, e3, e4⟩ := s
  exact ⟨c, e1, (k.get (lt_of_get e2) hb).trans e2, e3, e4⟩
theorem Lay.lt {w : Nat} {h : H} {v : Value} {n b : Nat} {cs : List Value} {an : List Nat} (s : Lay w h v n b cs an) : b < h.size := by
  obtain ⟨c, e1, e2, e3, e4⟩ := s
  exact lt_of_get e2
theorem Lay.len {w : Nat} {h : H} {v : Value} {n b : Nat} {cs : List Value} {an : List Nat} (s : Lay w h v n b cs an) : n * w ≤ cs.length := by
  obtain ⟨c, e1, e2, e3, e4⟩ := s
  rw [e3]
  exact Nat.mul_le_mul_right _ e4

/-- A list that may be none yet. -/
def LayO (w : Nat) (h : H) (v : Value) (n : Nat) (own : List Nat) (cs : List Value) : Prop :=
  (v = .slice none 0 0 ∧ n = 0 ∧ own = [] ∧ cs = []) ∨ ∃ b an, own = b :: an ∧ Lay w h v n b cs an

theorem LayO.kept {w : Nat} {h h' : H} {v : Value} {n : Nat} {own : List Nat} {cs : List Value} {L : List Nat} (s : LayO w h v n own cs) (k : Kept h h' L) (hb : ∀ c ∈ own, c ∉ L) : LayO w h' v n own cs := by
  rcases s with s | ⟨b, an, rfl, s⟩
  · exact .inl s
  · exact .inr ⟨b, an, rfl, s.kept k (hb b (by simp))⟩

/-- From one state to the next: only owned blocks change, and what is owned then is owned already, or new. -/
def Moves (h h' : H) (O O' : List Nat) : Prop := Kept h h' O ∧ ∀ c ∈ O', c ∈ O ∨ h.size ≤ c

theorem Moves.refl (h : H) (O : List Nat) : Moves h h O O := ⟨Kept.refl _ _, fun _ q => .inl q⟩
theorem Moves.trans {h h1 h2 : H} {O O1 O2 : List Nat} (a : Moves h h1 O O1) (b : Moves h1 h2 O1 O2) : Moves h h2 O O2 := by
  refine ⟨⟨Nat.le_trans a.1.1 b.1.1, fun c hc hn => ?_⟩, fun c hc => ?_⟩
  · refine (b.1.get (Nat.lt_of_lt_of_le hc a.1.1) (fun q => ?_)).trans (a.1.get hc hn)
    rcases a.2 c q with q | q
    · exact hn q
    · omega
  · rcases b.2 c hc with q | q
    · exact a.2 c q
    · have := a.1.1
      exact .inr (by omega)
theorem Moves.cons {h h' : H} {O O' : List Nat} (a : Moves h h' O O') (d : Nat) : Moves h h' (d :: O) (d :: O') := by
  refine ⟨a.1.weak (fun c q => List.mem_cons_of_mem _ q), fun c hc => ?_⟩
  rcases List.mem_cons.1 hc with rfl | hc
  · exact .inl (by simp)
  · rcases a.2 c hc with q | q
    · exact .inl (List.mem_cons_of_mem _ q)
    · exact .inr q
theorem Moves.of {h h' : H} {L O : List Nat} (k : Kept h h' L) (hL : ∀ c ∈ L, c ∈ O) : Moves h h' O O := ⟨k.weak hL, fun _ q => .inl q⟩
theorem Moves.right {h h' : H} {O O' : List Nat} (a : Moves h h' O O') (R : List Nat) : Moves h h' (O ++ R) (O' ++ R) := by
  refine ⟨a.1.weak (fun c q => List.mem_append_left _ q), fun c hc => ?_⟩
  rcases List.mem_append.1 hc with hc | hc
  · rcases a.2 c hc with q | q
    · exact .inl (List.mem_append_left _ q)
    · exact .inr q
  · exact .inl (List.mem_append_right _ hc)
theorem Moves.left {h h' : H} {O O' : List Nat} (a : Moves h h' O O') (R : List Nat) : Moves h h' (R ++ O) (R ++ O') := by
  refine ⟨a.1.weak (fun c q => List.mem_append_right _ q), fun c hc => ?_⟩
  rcases List.mem_append.1 hc with hc | hc
  · exact .inl (List.mem_append_left _ hc)
  · rcases a.2 c hc with q | q
    · exact .inl (List.mem_append_right _ q)
    · exact .inr q
/-- What is not owned stays so. -/
theorem Moves.out {h h' : H} {O O' : List Nat} (a : Moves h h' O O') {c : Nat} (hc : c < h.size) (hn : c ∉ O) : c ∉ O' := fun q => by
  rcases a.2 c q with q | q
  · exact hn q
  · omega

theorem LayO.lenV {w : Nat} {h : H} {v : Value} {n : Nat} {own : List Nat} {cs : List Value} (s : LayO w h v n own cs) : lenV v = some (.int .i64 n) := by
  rcases s with ⟨rfl, rfl, _⟩ | ⟨b, an, _, c, rfl, _⟩ <;> simp [Ev.lenV]
theorem LayO.one {w : Nat} {h : H} {v : Value} {n : Nat} {own : List Nat} {cs : List Value} (s : LayO w h v n own cs) : oneCell v = true := by
  rcases s with ⟨rfl, rfl, _⟩ | ⟨b, an, _, c, rfl, _⟩ <;> rfl

theorem LayO.vc {w : Nat} {h : H} {v : Value} {n : Nat} {own : List Nat} {cs : List Value} (s : LayO w h v n own cs) : vcells v = some [v] := by
  rcases s with ⟨rfl, rfl, _⟩ | ⟨b, an, _, c, rfl, _⟩ <;> rfl

theorem LayO.sameV {w : Nat} {h : H} {v : Value} {n : Nat} {own : List Nat} {cs : List Value} (s : LayO w h v n own cs) : Ev.sameV v v = true := by
  rcases s with ⟨rfl, rfl, _⟩ | ⟨b, an, _, c, rfl, _⟩ <;> simp [Ev.sameV, sameCell]

/-- Some elements put behind: in place, or in a new block. -/
theorem LayO.appN {w k : Nat} {h : H} {v : Value} {n : Nat} {own : List Nat} {cs : List Value} {bytes : Nat} (s : LayO w h v n own cs) (hnd : own.Nodup) (hlt : ∀ c ∈ own, c < h.size) {new : List Value} (hn : new.length = k * w) (ho : new.all oneCell = true) (hb : (n + k) * bytes ≤ 2 ^ 47) :
    Ans (appendTo h w bytes v k new) fun v' h' => ∃ own' cs', LayO w h' v' (n + k) own' cs' ∧ cs'.take ((n + k) * w) = cs.take (n * w) ++ new ∧ own'.Nodup ∧ (∀ c ∈ own', c < h'.size) ∧ Moves h h' own own' := by
  rcases Nat.eq_zero_or_pos k with rfl | hk
  · have : new = [] := by rw [Nat.zero_mul] at hn; exact List.length_eq_zero_iff.1 hn
    subst this
    rcases s with ⟨rfl, rfl, rfl, rfl⟩ | ⟨b, an, rfl, c, rfl, hg, hl, hc⟩
    · exact ⟨.slice none 0 0, h, by simp [appendTo], [], [], .inl ⟨rfl, rfl, rfl, rfl⟩, by simp, by simp, by simp, Moves.refl _ _⟩
    · exact ⟨.slice (some ⟨b, 0, none⟩) n c, h, by simp [appendTo], b :: an, cs, .inr ⟨b, an, rfl, c, rfl, hg, hl, hc⟩, by simp, hnd, hlt, Moves.refl _ _⟩
  have hk0 : ¬ k = 0 := by omega
  have h1 : (n + k) * w = n * w + k * w := Nat.add_mul _ _ _
  have hb' : (n + k) * bytes ≤ 140737488355328 := by simpa using hb
  rcases s with ⟨rfl, rfl, rfl, rfl⟩ | ⟨b, an, rfl, c, rfl, hg, hl, hc⟩
  · rw [Nat.zero_add] at hb' h1 ⊢
    refine ⟨.slice (some ⟨h.size, 0, none⟩) k k, newRow h new w [], by simp [appendTo, hb', hk0], [h.size], new, .inr ⟨h.size, [], rfl, k, rfl, by simp, hn, Nat.le_refl _⟩, by rw [List.take_of_length_le (by omega)]; simp, by simp, by simp, ⟨rowKept _ _ _ _, by simp⟩⟩
  · have hbs := lt_of_get hg
    have hba : b ∉ an := (List.nodup_cons.1 hnd).1
    have hcl : n * w ≤ c * w := Nat.mul_le_mul_right _ hc
    by_cases hroom : n + k ≤ c
    · have h2 : (n + k) * w ≤ c * w := Nat.mul_le_mul_right _ hroom
      have hlen : (cs.take (n * w)).length = n * w := by rw [List.length_take]; omega
      obtain ⟨kk, zk⟩ := kill_kept an h
      refine ⟨.slice (some ⟨b, 0, none⟩) (n + k) c, (kill h an).setIfInBounds b (.cells (cs.take (n * w) ++ new ++ cs.drop (n * w + k * w)) w true []), ?_, [b], cs.take (n * w) ++ new ++ cs.drop (n * w + k * w), .inr ⟨b, [], rfl, c, rfl, by simp [hbs, zk], ?_, hroom⟩, ?_, by simp, by simp [zk, hbs], ⟨⟨by simp [zk], fun d hd hn' => ?_⟩, by simp⟩⟩
      · have : n * w + k * w ≤ cs.length := by omega
        simp [appendTo, hk0, hroom, wr, hg, hn, this]
        rw [if_pos (by simpa [oneCell] using ho)]
      · simp [hn]; omega
      · rw [h1, List.take_append_of_le_length (by simp [hn]; omega), List.take_of_length_le (by simp [hn]; omega)]
      · simp only [List.mem_cons, not_or] at hn'
        have n1 : ¬ b = d := fun e => hn'.1 e.symm
        rw [set_other n1]
        exact kk.get hd hn'.2
    · have hle : n * w ≤ cs.length := by omega
      have hlen : (cs.take (n * w)).length = n * w := by rw [List.length_take]; omega
      have hg' : h[b]? = some (.cells cs w true an) := hg
      by_cases he : n * w = cs.length
      · have e2 : cs.take (n * w) = cs := List.take_of_length_le (by omega)
        refine ⟨.slice (some ⟨h.size, 0, none⟩) (n + k) (n + k), newRow (h.setIfInBounds b (.cells cs w false an)) (cs ++ new) w (b :: an), ?_, h.size :: b :: an, cs ++ new, .inr ⟨h.size, b :: an, rfl, n + k, rfl, by simp, by simp [hn]; omega, Nat.le_refl _⟩, ?_, ?_, ?_, ⟨⟨by simp, fun d hd hn' => ?_⟩, ?_⟩⟩
        · simp only [appendTo, if_neg hk0, if_neg hroom, if_pos hb, hg']
          simp [he, e2, hl.symm]
        · rw [e2, List.take_of_length_le (by simp [hn]; omega)]
        · rw [List.nodup_cons]
          exact ⟨fun q => by have := hlt _ q; omega, hnd⟩
        · intro x hx
          rcases List.mem_cons.1 hx with rfl | hx
          · simp
          · have := hlt x hx; simp; omega
        · simp only [List.mem_cons, not_or] at hn'
          have n1 : ¬ b = d := fun e => hn'.1 e.symm
          simp [hd, n1]
        · intro x hx
          rcases List.mem_cons.1 hx with rfl | hx
          · exact .inr (Nat.le_refl _)
          · exact .inl hx
      · obtain ⟨kk, zk⟩ := kill_kept (b :: an) h
        refine ⟨.slice (some ⟨h.size, 0, none⟩) (n + k) (n + k), newRow (kill h (b :: an)) (cs.take (n * w) ++ new) w [], ?_, [h.size], cs.take (n * w) ++ new, .inr ⟨h.size, [], rfl, n + k, rfl, ?_, by simp [hn]; omega, Nat.le_refl _⟩, ?_, by simp, by simp [zk], ⟨⟨by simp [zk], fun d hd hn' => ?_⟩, by simp⟩⟩
        · simp only [appendTo, if_neg hk0, if_neg hroom, if_pos hb, hg']
          simp [he, hl.symm]
        · rw [← zk]; simp
        · rw [List.take_of_length_le (by simp [hn]; omega)]
        · rw [newRow_old (by rw [zk]; exact hd)]
          exact kk.get hd hn'

/-- An element written over. -/
theorem LayO.set {w : Nat} {h : H} {v : Value} {n i : Nat} {own : List Nat} {cs new : List Value} (s : LayO w h v n own cs) (hnd : own.Nodup) (hi : i < n) (hn : new.length = w) (ho : new.all oneCell = true) :
    ∃ b an c, own = b :: an ∧ v = .slice (some ⟨b, 0, none⟩) n c ∧ hget h b = some (.cells cs w true an) ∧ i * w + w ≤ cs.length ∧
      LayO w ((kill h an).setIfInBounds b (.cells (cs.take (i * w) ++ new ++ cs.drop (i * w + w)) w true [])) v n [b] (cs.take (i * w) ++ new ++ cs.drop (i * w + w)) ∧ Kept h ((kill h an).setIfInBounds b (.cells (cs.take (i * w) ++ new ++ cs.drop (i * w + w)) w true [])) own := by
  rcases s with ⟨rfl, rfl, _⟩ | ⟨b, an, rfl, c, rfl, hg, hl, hc⟩
  · omega
  have hbs := lt_of_get hg
  obtain ⟨kk, zk⟩ := kill_kept an h
  have h2 : (i + 1) * w ≤ c * w := Nat.mul_le_mul_right _ (by omega)
  rw [Nat.succ_mul] at h2
  refine ⟨b, an, c, rfl, rfl, hg, by omega, .inr ⟨b, [], rfl, c, rfl, by simp [hbs, zk], by simp [hn]; omega, hc⟩, ⟨by simp [zk], fun d hd hn' => ?_⟩⟩
  simp only [List.mem_cons, not_or] at hn'
  have n1 : ¬ b = d := fun e => hn'.1 e.symm
  rw [set_other n1]
  exact kk.get hd hn'.2

end Go.Ev

/- short, over what a slice reads as. -/
set_option linter.unusedSimpArgs false
set_option linter.unusedVariables false
namespace Go.Proofs.Ytmenfnapbggglaa
open Go.Ev

theorem cut_get {l : List Msg} {i : Nat} {m : Msg} (hm : l[i]? = some m) (hi : i < 300) : (cut l)[i]? = some (cutM m) := by
  unfold cut
  rw [List.getElem?_map, List.getElem?_take_of_lt hi, hm]; rfl

set_option maxHeartbeats 1000000 in
theorem cutS_spec {F : Nat} (hF : 1000 ≤ F) {ok : Nat → Prop} {h : H} {v : Value} {l : List Msg} (s : SlR ok 3 MsgC h v l) :
    Ans (cf F 14 [v] h) fun u h' => Bld (fun c => h.size ≤ c) 3 MsgC h' u (cut l) ∧ Kept h h' [] := by
  generalize hQ : (fun (u : Value) (h' : H) => Bld (fun c => h.size ≤ c) 3 MsgC h' u (cut l) ∧ Kept h h' []) = Q
  obtain ⟨F, rfl⟩ : ∃ G, F = G + 1 := ⟨F - 1, by omega⟩
  have hln := s.len
  have hcl := cut_length l
  rw [cf_step (a := a14) rfl rfl (by simp [a14])]
  simp (disch := first | omega | (simp only [newRow_size, Array.size_setIfInBounds, Array.size_push]; done) | (simp only [newRow_size, Array.size_setIfInBounds, Array.size_push]; omega)) [a14, r14_0, r14_1, r14_2]
  refine loop_rule (fun m e g' => ∃ (i : Nat) (u : Value), m = (cut l).length - i ∧ i ≤ (cut l).length ∧ e = [(0, v), (3, u), (4, .int .i64 i)] ∧ (∀ b, b < h.size → hget g' b = hget h b) ∧ h.size ≤ g'.size ∧ Bld (fun c => h.size ≤ c) 3 MsgC g' u ((cut l).take i)) ?_ _ (cut l).length _ _ (by omega) ⟨0, .slice none 0 0, by omega, by omega, rfl, fun _ _ => rfl, by omega, Bld.nil _ _ _ _⟩
  rintro m e g again ⟨i, u, rfl, hi, rfl, kg, zg, bu⟩ ih
  have hw : IntKind.i64.wrap ((i : Int) + 1) = ((i + 1 : Nat) : Int) := by rw [wrap_id (by omega) (by omega)]; rfl
  have sg : SlR (fun c => ok c ∧ c < h.size) 3 MsgC g v l := SlM.imp s (fun c hc q => ⟨q, hc⟩) (fun b zs hb hz => (cel_congr (kg b (cel_lt hz))).trans hz)
  by_cases hlt : i < (cut l).length
  · have hil : i < l.length := by omega
    obtain ⟨x, hx⟩ : ∃ x, l[i]? = some x := ⟨_, List.getElem?_eq_getElem hil⟩
    obtain ⟨b, o, c, csx, es, lv, an, rfl, hk, hg, hle, hpc⟩ := sg.at' hx
    have hpc' : (csx.drop (o + i * 3)).take 3 = [.int .i64 x.fr, .int .i64 x.to, .string x.b] := hpc
    have hgs := lt_of_get hg
    have h300 : (i : Int) < 300 := by omega
    have hil' : (i : Int) < (l.length : Int) := by omega
    have step : ∀ (y : Msg) (g1 : H), y = cutM x → hget g1 g.size = some (.cells [.int .i64 y.fr, .int .i64 y.to, .string y.b] 0 true []) → Kept g g1 [] →
        Ans (evR (cf F) r14_7 [(0, .slice (some ⟨b, o, none⟩) l.length c), (3, u), (4, .int .i64 i), (5, .pointer (some ⟨g.size, 0, none⟩))] g1 (evC F (cf F) (.region r14_8 [0, 3, 4]) (keepK [0, 3, 4] again) (putK 0 (evC F (cf F) ((ACode.region r14_10 [2]).seq .ret) (endK (cfX XD) [.tmp 2]) noK (endK (cfX XD) [.tmp 2])) noK) (endK (cfX XD) [.tmp 2])) [0, 3, 4] []) Q := by
      intro y g1 hy h1 k1
      have h1s := lt_of_get h1
      have y1 := k1.1
      simp (disch := first | omega | (simp only [newRow_size, Array.size_setIfInBounds, Array.size_push]; done) | (simp only [newRow_size, Array.size_setIfInBounds, Array.size_push]; omega)) [r14_7, h1, srcOf]
      have kN := rowKept g1 [.int .i64 y.fr, .int .i64 y.to, .string y.b] 3 []
      have bN := (bu.kept k1 (by simp) (fun cs t _ q => q)).kept kN (by simp) (fun cs t _ q => q)
      refine Ans.next (bN.push (x := y) (bytes := 32) msg_any rfl (by rw [List.length_take]; omega) (by simp; omega) rfl) ?_
      rintro u' h5 ⟨b5, z5, g5, _⟩
      simp only [newRow_size] at z5
      simp (disch := first | omega | (simp only [newRow_size, Array.size_setIfInBounds, Array.size_push]; done) | (simp only [newRow_size, Array.size_setIfInBounds, Array.size_push]; omega)) [r14_8, hw]
      refine ih ((cut l).length - (i + 1)) _ _ (by omega) ⟨i + 1, u', rfl, by omega, rfl, fun b hb => (g5 b (by omega)).trans ((kN.get (by omega) (by simp)).trans ((k1.get (by omega) (by simp)).trans (kg b hb))), by omega, ?_⟩
      rw [take_snoc (cut_get hx (by omega)), ← hy]
      exact b5
    by_cases h600 : 600 < slen x.b
    · have h600' : (600 : Int) < (slen x.b : Int) := by omega
      have hle6 : 600 ≤ slen x.b := by omega
      have := step ⟨x.fr, x.to, x.b.extract 0 600⟩
      simp (disch := first | omega | (simp only [newRow_size, Array.size_setIfInBounds, Array.size_push]; done) | (simp only [newRow_size, Array.size_setIfInBounds, Array.size_push]; omega)) [l14_9, r14_3, hln, hil', h300, eqT, eqF, neT, neF, ltT, ltF, leT, leF, nltT, nltF, nleT, nleF, nneT, nneF, List.getElem?_cons_zero, List.getElem?_cons_succ, r14_4, hg, hpc', r14_5, h600', r14_6, hle6, optInt]
      refine this _ (by simp [cutM, h600]) ?_ ?_
      · simp (disch := first | omega | (simp only [newRow_size, Array.size_setIfInBounds, Array.size_push]; done) | (simp only [newRow_size, Array.size_setIfInBounds, Array.size_push]; omega)) []
      · exact ⟨by simp, fun c hc _ => by simp (disch := first | omega | (simp only [newRow_size, Array.size_setIfInBounds, Array.size_push]; done) | (simp only [newRow_size, Array.size_setIfInBounds, Array.size_push]; omega)) [hc, Nat.ne_of_gt hc]⟩
    · have h600' : ¬ (600 : Int) < (slen x.b : Int) := by omega
      have := step x
      simp (disch := first | omega | (simp only [newRow_size, Array.size_setIfInBounds, Array.size_push]; done) | (simp only [newRow_size, Array.size_setIfInBounds, Array.size_push]; omega)) [l14_9, r14_3, hln, hil', h300, eqT, eqF, neT, neF, ltT, ltF, leT, leF, nltT, nltF, nleT, nleF, nneT, nneF, List.getElem?_cons_zero, List.getElem?_cons_succ, r14_4, hg, hpc', r14_5, h600']
      refine this _ (by simp [cutM, h600]) ?_ ?_
      · simp (disch := first | omega | (simp only [newRow_size, Array.size_setIfInBounds, Array.size_push]; done) | (simp only [newRow_size, Array.size_setIfInBounds, Array.size_push]; omega)) []
      · exact ⟨by simp, fun c hc _ => by simp (disch := first | omega | (simp only [newRow_size, Array.size_setIfInBounds, Array.size_push]; done) | (simp only [newRow_size, Array.size_setIfInBounds, Array.size_push]; omega)) [hc, Nat.ne_of_gt hc]⟩
  · have hii : i = (cut l).length := by omega
    rw [hii, List.take_length] at bu
    by_cases hil : i < l.length
    · have h300 : ¬ (i : Int) < 300 := by omega
      have hil' : (i : Int) < (l.length : Int) := by omega
      simp (disch := first | omega | (simp only [newRow_size, Array.size_setIfInBounds, Array.size_push]; done) | (simp only [newRow_size, Array.size_setIfInBounds, Array.size_push]; omega)) [l14_9, r14_3, hln, hil', h300, eqT, eqF, neT, neF, ltT, ltF, leT, leF, nltT, nltF, nleT, nleF, nneT, nneF, List.getElem?_cons_zero, List.getElem?_cons_succ, r14_10]
      subst hQ
      exact Ans.of ⟨bu, ⟨zg, fun c hc _ => kg c hc⟩⟩
    · have hil' : ¬ (i : Int) < (l.length : Int) := by omega
      simp (disch := first | omega | (simp only [newRow_size, Array.size_setIfInBounds, Array.size_push]; done) | (simp only [newRow_size, Array.size_setIfInBounds, Array.size_push]; omega)) [l14_9, r14_3, hln, hil', eqT, eqF, neT, neF, ltT, ltF, leT, leF, nltT, nltF, nleT, nleF, nneT, nneF, List.getElem?_cons_zero, List.getElem?_cons_succ, r14_10]
      subst hQ
      exact Ans.of ⟨bu, ⟨zg, fun c hc _ => kg c hc⟩⟩

end Go.Proofs.Ytmenfnapbggglaa
