/- Several texts in one: Lc6, Lc7, Ld0, Ld1, Ld2, Ld3, Ld4, Ld5, Ld6, Ld7. -/
import Derived.Test.YtmenfnapbggglaaM15

/- The document's line: Spoil: the flight copied, one message exchanged; Spoil itself. -/
set_option linter.unusedSimpArgs false
set_option linter.unusedVariables false
namespace Go.Proofs.Ytmenfnapbggglaa
open Go.Ev

def spF : ACode := (.seq (.region r39_20 [1, 4, 8, 10, 11, 15, 16]) (.block 2 (.loop [1, 4, 8, 10, 11, 15, 16] l39_27)))

theorem a39_cut : a39.body = (.seq (.region r39_0 [1, 2, 3, 4, 8]) (.seq (.region r39_1 [1, 2, 3, 4, 8, 10]) (.seq (.seq (.region r39_2 [1, 2, 3, 4, 8, 10, 22]) (.cond (.tmp 22) (.seq (.region r39_3 [8, 9]) .ret) .skip)) (.seq (.region r39_4 [1, 2, 3, 4, 8, 10, 11]) (.seq (.seq (.region r39_5 [1, 2, 3, 4, 8, 10, 11, 44]) (.cond (.tmp 44) (.seq (.region r39_6 [8, 9]) .ret) .skip)) (.seq (.seq (.region r39_7 [1, 2, 3, 4, 8, 10, 11, 51]) (.cond (.tmp 51) (.seq (.region r39_8 [8, 9]) .ret) .skip)) (.seq (.region r39_9 [1, 2, 3, 4, 8, 10, 11, 12]) (.seq spB (.seq (.region r39_18 [1, 4, 8, 10, 11]) (.seq (.region r39_19 [1, 4, 8, 10, 11, 15]) (.seq spF (.seq (.region r39_28 [8, 9]) .ret)))))))))))) := rfl

set_option maxHeartbeats 1000000 in
theorem spF_spec {F : Nat} (hF : 1000 ≤ F) {g : H} {lb mb nb : Nat} {v : Value} {m : Msg} {n last : Int} {nn : Bool} {i : Nat} {fl : Flight} {okF : Nat → Prop} {s8 : Value}
    (hlb : hget g lb = some (.cells [v, .int .i64 last, .bool nn] 0 true [])) (hmb : hget g mb = some (.cells [.int .i64 m.fr, .int .i64 m.to, .string m.b] 0 true [])) (hnb : hget g nb = some (.cells [.slice none 0 0, .int .i64 last, .bool false] 0 true []))
    (n1 : lb ≠ nb) (n2 : mb ≠ nb) (sf : SlR okF 5 PclC g v fl) (hokF : ∀ c, okF c → c ≠ nb ∧ c < g.size) (hl : fl.length ≤ 256) (hi : i < fl.length)
    {kn kr : K} {ke : Nat → K} {Q : Value → H → Prop}
    (hk : ∀ g2 u (e : Env), (∀ b, b < g.size → b ≠ nb → hget g2 b = hget g b) → g.size ≤ g2.size → hget g2 nb = some (.cells [u, .int .i64 last, .bool false] 0 true []) → Bld (fun c => g.size ≤ c) 5 PclC g2 u (fl.set i (n, m, true)) →
      Ans (kn ((1, .int .i64 n) :: (4, .pointer (some ⟨lb, 0, none⟩)) :: (8, s8) :: (10, .int .i64 i) :: (11, .pointer (some ⟨mb, 0, none⟩)) :: (15, .pointer (some ⟨nb, 0, none⟩)) :: e) g2 []) Q) :
    Ans (evC F (cf F) spF kn ke kr [(1, .int .i64 n), (4, .pointer (some ⟨lb, 0, none⟩)), (8, s8), (10, .int .i64 i), (11, .pointer (some ⟨mb, 0, none⟩)), (15, .pointer (some ⟨nb, 0, none⟩))] g []) Q := by
  have hlbs := lt_of_get hlb
  have hmbs := lt_of_get hmb
  have hnbs := lt_of_get hnb
  have hln := sf.len
  have hsl : (fl.set i (n, m, true)).length = fl.length := by simp
  simp (disch := first | omega | (simp only [newRow_size, Array.size_setIfInBounds, Array.size_push]; done) | (simp only [newRow_size, Array.size_setIfInBounds, Array.size_push]; omega)) [spF, r39_20]
  refine loop_rule (fun mm e g' => ∃ (k : Nat) (u : Value), mm = fl.length - k ∧ k ≤ fl.length ∧ e = [(1, .int .i64 n), (4, .pointer (some ⟨lb, 0, none⟩)), (8, s8), (10, .int .i64 i), (11, .pointer (some ⟨mb, 0, none⟩)), (15, .pointer (some ⟨nb, 0, none⟩)), (16, .int .i64 k)] ∧ (∀ b, b < g.size → b ≠ nb → hget g' b = hget g b) ∧ g.size ≤ g'.size ∧ hget g' nb = some (.cells [u, .int .i64 last, .bool false] 0 true []) ∧ Bld (fun c => g.size ≤ c) 5 PclC g' u ((fl.set i (n, m, true)).take k)) ?_ _ fl.length _ _ (by omega) ⟨0, .slice none 0 0, by omega, by omega, rfl, fun _ _ _ => rfl, Nat.le_refl _, hnb, Bld.nil _ _ _ _⟩
  rintro mm e g' again ⟨k, u, rfl, hkl, rfl, kg, zg, n3, bu⟩ ih
  have hw : IntKind.i64.wrap ((k : Int) + 1) = ((k + 1 : Nat) : Int) := by rw [wrap_id (by omega) (by omega)]; rfl
  have q0 := (kg lb hlbs n1).trans hlb
  have q1 := (kg mb hmbs n2).trans hmb
  have sf' : SlR okF 5 PclC g' v fl := SlF.imp sf (fun _ _ q => q) (fun b zs hb hz => (cel_congr (kg b (hokF b hb).2 (hokF b hb).1)).trans hz)
  by_cases hlt : k < fl.length
  · obtain ⟨x, hx⟩ : ∃ x, fl[k]? = some x := ⟨_, List.getElem?_eq_getElem hlt⟩
    obtain ⟨b, o, c, csx, es, lv, an, rfl, hk', hg, hle, hpc⟩ := sf'.at' hx
    obtain ⟨e5, e1, e3, e4⟩ := pc_at hpc hle
    have hgs := lt_of_get hg
    have step : ∀ (y : Int × Parcel), (fl.set i (n, m, true))[k]? = some y →
        Ans (evR (cf F) r39_25 [(1, .int .i64 n), (4, .pointer (some ⟨lb, 0, none⟩)), (8, s8), (10, .int .i64 i), (11, .pointer (some ⟨mb, 0, none⟩)), (15, .pointer (some ⟨nb, 0, none⟩)), (16, .int .i64 k), (17, .pointer (some ⟨g'.size, 0, none⟩))] (Ev.newRow g' [.int .i64 y.1, .int .i64 y.2.1.fr, .int .i64 y.2.1.to, .string y.2.1.b, .bool y.2.2] 0 []) (evC F (cf F) (.region r39_26 [1, 4, 8, 10, 11, 15, 16]) (keepK [1, 4, 8, 10, 11, 15, 16] again) (putK 2 kn ke) kr) [1, 4, 8, 10, 11, 15, 16] []) Q := by
      intro y hy
      have hy' : (fl.set i (n, m, true)).take (k + 1) = (fl.set i (n, m, true)).take k ++ [y] := take_snoc hy
      generalize hyy : [Value.int .i64 y.1, .int .i64 y.2.1.fr, .int .i64 y.2.1.to, .string y.2.1.b, .bool y.2.2] = yy
      have kA := rowKept g' yy 0 []
      have hA : hget (Ev.newRow g' yy 0 []) g'.size = some (.cells yy 0 true []) := by simp
      have zA : (Ev.newRow g' yy 0 []).size = g'.size + 1 := by simp
      generalize Ev.newRow g' yy 0 [] = gA at kA hA zA ⊢
      subst hyy
      have r3 := (kA.get (lt_of_get n3) (by simp)).trans n3
      have hAs := lt_of_get hA
      have r3s := lt_of_get r3
      simp (disch := first | omega | (simp only [newRow_size, Array.size_setIfInBounds, Array.size_push]; done) | (simp only [newRow_size, Array.size_setIfInBounds, Array.size_push]; omega)) [r39_25, r3, hA, srcOf]
      have kB := rowKept gA [.int .i64 y.1, .int .i64 y.2.1.fr, .int .i64 y.2.1.to, .string y.2.1.b, .bool y.2.2] 5 []
      have bN := (bu.kept kA (by simp) (fun cs t _ q => q)).kept kB (by simp) (fun cs t _ q => q)
      refine Ans.next (bN.push (x := y) (bytes := 48) pcl_any rfl (by rw [List.length_take]; omega) (by simp; omega) rfl) ?_
      rintro u' h5 ⟨b5, z5, g5, _⟩
      have ou' := b5.sl.one
      have vu' := b5.sl.vc
      simp only [oneCell] at ou'
      simp only [vcells] at vu'
      simp only [newRow_size] at z5
      have w3 := (g5 nb hnbs).trans ((kB.get r3s (by simp)).trans r3)
      simp (disch := first | omega | (simp only [newRow_size, Array.size_setIfInBounds, Array.size_push]; done) | (simp only [newRow_size, Array.size_setIfInBounds, Array.size_push]; omega)) [w3, ou', vu', r39_26, hw]
      refine ih (fl.length - (k + 1)) _ _ (by omega) ⟨k + 1, u', rfl, by omega, rfl, ?_, by simp; omega, by simp (disch := first | omega | (simp only [newRow_size, Array.size_setIfInBounds, Array.size_push]; done) | (simp only [newRow_size, Array.size_setIfInBounds, Array.size_push]; omega)) [], ?_⟩
      · intro b hb hbn
        rw [set_other (fun e => hbn e.symm)]
        exact (g5 b hb).trans ((kB.get (by omega) (by simp)).trans ((kA.get (by omega) (by simp)).trans (kg b hb hbn)))
      · rw [hy']
        refine b5.kept (L := [nb]) ⟨by simp, fun c hc hn => set_other (fun e => hn (by simp [e]))⟩ ?_ (fun cs t _ q => q)
        intro c hc
        simp at hc
        omega
    by_cases hki : k = i
    · subst hki
      have := step (n, m, true) (by rw [List.getElem?_set_self hi])
      simp (disch := first | omega | (simp only [newRow_size, Array.size_setIfInBounds, Array.size_push]; done) | (simp only [newRow_size, Array.size_setIfInBounds, Array.size_push]; omega)) [l39_27, r39_21, q0, hln, eqT, eqF, neT, neF, ltT, ltF, leT, leF, nltT, nltF, nleT, nleF, nneT, nneF, List.getElem?_cons_zero, List.getElem?_cons_succ, r39_22, hg, e5, r39_23, r39_24, q1]
      exact this
    · have hki' : ¬ (k : Int) = (i : Int) := by omega
      have := step x (by rw [List.getElem?_set_ne (fun e => hki e.symm)]; exact hx)
      simp (disch := first | omega | (simp only [newRow_size, Array.size_setIfInBounds, Array.size_push]; done) | (simp only [newRow_size, Array.size_setIfInBounds, Array.size_push]; omega)) [l39_27, r39_21, q0, hln, eqT, eqF, neT, neF, ltT, ltF, leT, leF, nltT, nltF, nleT, nleF, nneT, nneF, List.getElem?_cons_zero, List.getElem?_cons_succ, r39_22, hg, e5, r39_23, hki']
      exact this
  · have hii : k = fl.length := by omega
    subst hii
    rw [List.take_of_length_le (by omega)] at bu
    simp (disch := first | omega | (simp only [newRow_size, Array.size_setIfInBounds, Array.size_push]; done) | (simp only [newRow_size, Array.size_setIfInBounds, Array.size_push]; omega)) [l39_27, r39_21, q0, hln, eqT, eqF, neT, neF, ltT, ltF, leT, leF, nltT, nltF, nleT, nleF, nneT, nneF, List.getElem?_cons_zero, List.getElem?_cons_succ]
    exact hk g' u _ kg zg n3 bu

end Go.Proofs.Ytmenfnapbggglaa

/- The document's line: Spoil itself. -/
set_option linter.unusedSimpArgs false
set_option linter.unusedVariables false
namespace Go.Proofs.Ytmenfnapbggglaa
open Go.Ev

/-- Spoil. -/
def spoilR (n at' turn : Int) (fl : Flight) : Flight × Int := match lk n fl 0 with
  | none => (fl, 160)
  | some (i, p) => if at' < 0 ∨ turn < 1 ∨ 255 < turn ∨ slen p.1.b = 0 then (fl, 1)
    else if p.2 = true then (fl, 161)
    else (fl.set i (n, ⟨p.1.fr, p.1.to, turnB p.1.b (at' % slen p.1.b).toNat turn⟩, true), 0)

def SpoilPost (ok : Nat → Prop) (h : H) (nn : Bool) (last : Int) (r : Flight × Int) (v : Value) (h' : H) : Prop := ∃ cs, v = .tuple ⟨[.agg ⟨cs⟩, .int .i64 r.2]⟩ ∧ RefL ok h' cs r.1 last nn ∧ Kept h h' []

theorem ba_empty (b : ByteArray) : (b == ⟨#[]⟩) = decide (slen b = 0) := by
  by_cases h : slen b = 0
  · have : b = ⟨#[]⟩ := by
      obtain ⟨⟨l⟩⟩ := b
      have : l.length = 0 := h
      rw [List.length_eq_zero_iff.1 this]
    subst this
    rfl
  · rw [decide_eq_false h]
    refine ba_ne' fun e => h ?_
    rw [e]; rfl
where
  ba_ne' {a c : ByteArray} (h : a ≠ c) : (a == c) = false := by
    cases e : a == c with
    | false => rfl
    | true => exact (h ((MapKept.bytes_beq a c).1 e)).elim

theorem Bld.strC {B : Nat} {h : H} {u : Value} {l : List UInt8} (s : Bld (fun c => B ≤ c) 1 U8C h u l) (hne : l ≠ []) : ∃ b cs an, u = .slice (some ⟨b, 0, none⟩) l.length l.length ∧ hget h b = some (.cells cs 1 true an) ∧ cs = l.map fun b => .int .u8 b.toNat := by
  rcases s with ⟨_, e⟩ | ⟨b, cs, an, e, hk, hb, hl, hi⟩
  · exact (hne e).elim
  · rw [Nat.mul_one] at hl
    have hcs := u8_cells hl (fun i x hx => by have := hi i x hx; rw [Nat.mul_one] at this; exact this)
    exact ⟨b, cs, an, e, hb, hcs⟩

set_option maxHeartbeats 2000000 in
theorem refSpoil_spec {F : Nat} (hF : 2000 ≤ F) {ok : Nat → Prop} {h : H} {cs : List Value} {fl : Flight} {last : Int} {nn : Bool} (s : RefL ok h cs fl last nn) (hok : ∀ c, h.size ≤ c → ok c) (hl : fl.length ≤ 256) (hnn : nn = true → fl = []) (hsl : ∀ q ∈ fl, slen q.2.1.b ≤ 600) (n at' turn : Int) :
    Ans (cf F 39 [.agg ⟨cs⟩, .int .i64 n, .int .i64 at', .int .i64 turn] h) (SpoilPost ok h nn last (spoilR n at' turn fl)) := by
  generalize hQ : SpoilPost ok h nn last (spoilR n at' turn fl) = Q
  obtain ⟨F, rfl⟩ : ∃ G, F = G + 1 := ⟨F - 1, by omega⟩
  obtain ⟨v, hcs, sv⟩ := id s
  have ov := sv.one
  simp only [oneCell] at ov
  have hres : a39.results = [.cellN 8 3, .tmp 9] := rfl
  rw [cf_step (a := a39) rfl rfl (by simp [a39]), a39_cut, hres, hcs]
  simp (disch := first | omega | (simp only [newRow_size, Array.size_setIfInBounds, Array.size_push]; done) | (simp only [newRow_size, Array.size_setIfInBounds, Array.size_push]; omega)) [r39_0, ov, r39_1]
  generalize hz : [Value.slice none 0 0, .int .i64 0, .bool false] = zz
  rw [← hcs]
  have kR : Kept h (Ev.newRow (Ev.newRow h cs 0 []) zz 0 []) [] := (rowKept _ _ _ _).trans (rowKept _ _ _ _)
  have m0 : hget (Ev.newRow (Ev.newRow h cs 0 []) zz 0 []) h.size = some (.cells cs 0 true []) := by simp (disch := first | omega | (simp only [newRow_size, Array.size_setIfInBounds, Array.size_push]; done) | (simp only [newRow_size, Array.size_setIfInBounds, Array.size_push]; omega)) []
  have m1 : hget (Ev.newRow (Ev.newRow h cs 0 []) zz 0 []) (h.size + 1) = some (.cells zz 0 true []) := by simp (disch := first | omega | (simp only [newRow_size, Array.size_setIfInBounds, Array.size_push]; done) | (simp only [newRow_size, Array.size_setIfInBounds, Array.size_push]; omega)) []
  have zR : (Ev.newRow (Ev.newRow h cs 0 []) zz 0 []).size = h.size + 2 := by simp
  generalize Ev.newRow (Ev.newRow h cs 0 []) zz 0 [] = g at kR m0 m1 zR ⊢
  subst hz
  have sg : RefL (fun c => ok c ∧ c < h.size) g cs fl last nn := s.imp (fun c hc q => ⟨q, hc⟩) (keep_of kR.c (by simp))
  refine Ans.next (find_spec (F := F) (by omega) sg hl n) ?_
  rintro u g1 ⟨rfl, k1⟩
  have y1 := k1.1
  have n0 := (k1.get (by omega) (by simp)).trans m0
  have n1 := (k1.get (by omega) (by simp)).trans m1
  have kh1 : Kept h g1 [] := kR.trans k1
  have sg1 := sg.imp (ok' := fun c => ok c ∧ c < h.size) (fun _ _ q => q) (keep_of k1.c (by simp))
  have fin : ∀ (g' : H) (cs' : List Value) (r : Flight × Int) (ok' : Nat → Prop), RefL ok' g' cs' r.1 last nn → (∀ c, ok' c → ok c ∧ c ≠ h.size + 1) → Kept h g' [] → h.size + 2 ≤ g'.size → spoilR n at' turn fl = r →
      Ans (some (Value.tuple ⟨[.agg ⟨cs'⟩, .int .i64 r.2]⟩, g'.setIfInBounds (h.size + 1) (.cells cs' 0 true []))) Q := by
    intro g' cs' r ok' s' hok' k' hz e
    subst hQ
    rw [e]
    have k6 : Kept g' (g'.setIfInBounds (h.size + 1) (.cells cs' 0 true [])) [h.size + 1] := ⟨by simp, fun c hc hn => set_other (fun e => hn (by simp [e]))⟩
    exact Ans.of ⟨cs', rfl, s'.imp (fun c _ q => (hok' c q).1) (keep_of k6.c (by intro c hc; simp at hc; subst hc; exact fun q => (hok' _ q).2 rfl)), ⟨by have := k6.1; have := k'.1; omega, fun c hc _ => (k6.get (by have := k'.1; omega) (by simp; omega)).trans (k'.get hc (by simp))⟩⟩
  have n0' := n0
  rw [hcs] at n0'
  cases hlk : lk n fl 0 with
  | none =>
    have hd : spoilR n at' turn fl = (fl, 160) := by unfold spoilR; rw [hlk]
    simp (disch := first | omega | (simp only [newRow_size, Array.size_setIfInBounds, Array.size_push]; done) | (simp only [newRow_size, Array.size_setIfInBounds, Array.size_push]; omega)) [fd_none hlk, r39_2, eqT, eqF, neT, neF, ltT, ltF, leT, leF, nltT, nltF, nleT, nleF, nneT, nneF, List.getElem?_cons_zero, List.getElem?_cons_succ, r39_3, n0', n1, ov]
    rw [← hcs]
    exact fin g1 cs (fl, 160) _ sg1 (fun c q => ⟨q.1, by omega⟩) kh1 (by omega) hd
  | some q =>
    obtain ⟨i, p⟩ := q
    obtain ⟨_, hp⟩ := lk_get hlk
    rw [Nat.sub_zero] at hp
    have hil := (List.getElem?_eq_some_iff.1 hp).1
    have hps := hsl _ (List.mem_of_getElem? hp)
    have hnf : nn = false := by
      cases nn with
      | false => rfl
      | true => rw [hnn rfl] at hlk; simp [lk] at hlk
    obtain ⟨v1, e1, sv1⟩ := id sg1
    rw [hcs] at e1
    injection e1 with e1
    subst e1
    obtain ⟨b, o, c, csx, es, lv, an, hv, hk, hg, hle, hpc⟩ := sv1.at' hp
    obtain ⟨e5, e1, e3, e4⟩ := pc_at hpc hle
    have hgs := lt_of_get hg
    rw [hv] at n0'
    simp (disch := first | omega | (simp only [newRow_size, Array.size_setIfInBounds, Array.size_push]; done) | (simp only [newRow_size, Array.size_setIfInBounds, Array.size_push]; omega)) [fd_some hlk, r39_2, eqT, eqF, neT, neF, ltT, ltF, leT, leF, nltT, nltF, nleT, nleF, nneT, nneF, List.getElem?_cons_zero, List.getElem?_cons_succ, r39_4, n0', hg, e3]
    have kN := rowKept g1 [.int .i64 p.1.fr, .int .i64 p.1.to, .string p.1.b] 0 []
    have hmb : hget (Ev.newRow g1 [.int .i64 p.1.fr, .int .i64 p.1.to, .string p.1.b] 0 []) g1.size = some (.cells [.int .i64 p.1.fr, .int .i64 p.1.to, .string p.1.b] 0 true []) := by simp
    have zN : (Ev.newRow g1 [.int .i64 p.1.fr, .int .i64 p.1.to, .string p.1.b] 0 []).size = g1.size + 1 := by simp
    generalize Ev.newRow g1 [.int .i64 p.1.fr, .int .i64 p.1.to, .string p.1.b] 0 [] = g2 at kN hmb zN ⊢
    have hmbs := lt_of_get hmb
    have p0 := (kN.get (by omega) (by simp)).trans n0'
    have p1 := (kN.get (by omega) (by simp)).trans n1
    have pg := (kN.get hgs (by simp)).trans hg
    have kh2 : Kept h g2 [] := kh1.trans kN
    have sg2 := sg1.imp (ok' := fun c => ok c ∧ c < h.size) (fun _ _ q => q) (keep_of kN.c (by simp))
    have bad : (at' < 0 ∨ turn < 1 ∨ 255 < turn ∨ slen p.1.b = 0) → Ans (some (Value.tuple ⟨[.agg ⟨[.slice (some ⟨b, o, none⟩) fl.length c, .int .i64 last, .bool nn]⟩, .int .i64 1]⟩, g2.setIfInBounds (h.size + 1) (.cells [.slice (some ⟨b, o, none⟩) fl.length c, .int .i64 last, .bool nn] 0 true []))) Q := by
      intro hbad
      have hd : spoilR n at' turn fl = (fl, 1) := by unfold spoilR; rw [hlk]; simp only; rw [if_pos hbad]
      rw [← hv, ← hcs]
      exact fin g2 cs (fl, 1) _ sg2 (fun c q => ⟨q.1, by omega⟩) kh2 (by omega) hd
    have hbe := ba_empty p.1.b
    by_cases c1 : at' < 0
    · simp (disch := first | omega | (simp only [newRow_size, Array.size_setIfInBounds, Array.size_push]; done) | (simp only [newRow_size, Array.size_setIfInBounds, Array.size_push]; omega)) [r39_5, c1, eqT, eqF, neT, neF, ltT, ltF, leT, leF, nltT, nltF, nleT, nleF, nneT, nneF, List.getElem?_cons_zero, List.getElem?_cons_succ, r39_6, p0, p1]
      exact bad (.inl c1)
    by_cases c2 : turn < 1
    · simp (disch := first | omega | (simp only [newRow_size, Array.size_setIfInBounds, Array.size_push]; done) | (simp only [newRow_size, Array.size_setIfInBounds, Array.size_push]; omega)) [r39_5, c1, c2, eqT, eqF, neT, neF, ltT, ltF, leT, leF, nltT, nltF, nleT, nleF, nneT, nneF, List.getElem?_cons_zero, List.getElem?_cons_succ, r39_6, p0, p1]
      exact bad (.inr (.inl c2))
    by_cases c3 : 255 < turn
    · simp (disch := first | omega | (simp only [newRow_size, Array.size_setIfInBounds, Array.size_push]; done) | (simp only [newRow_size, Array.size_setIfInBounds, Array.size_push]; omega)) [r39_5, c1, c2, c3, eqT, eqF, neT, neF, ltT, ltF, leT, leF, nltT, nltF, nleT, nleF, nneT, nneF, List.getElem?_cons_zero, List.getElem?_cons_succ, r39_6, p0, p1]
      exact bad (.inr (.inr (.inl c3)))
    by_cases c4 : slen p.1.b = 0
    · rw [decide_eq_true c4] at hbe
      simp (disch := first | omega | (simp only [newRow_size, Array.size_setIfInBounds, Array.size_push]; done) | (simp only [newRow_size, Array.size_setIfInBounds, Array.size_push]; omega)) [r39_5, c1, c2, c3, hmb, hbe, eqT, eqF, neT, neF, ltT, ltF, leT, leF, nltT, nltF, nleT, nleF, nneT, nneF, List.getElem?_cons_zero, List.getElem?_cons_succ, r39_6, p0, p1]
      exact bad (.inr (.inr (.inr c4)))
    rw [decide_eq_false c4] at hbe
    have hnb : ¬ (at' < 0 ∨ turn < 1 ∨ 255 < turn ∨ slen p.1.b = 0) := by omega
    cases c5 : p.2 with
    | true =>
      have hd : spoilR n at' turn fl = (fl, 161) := by unfold spoilR; rw [hlk]; simp only; rw [if_neg hnb, if_pos c5]
      rw [c5] at e4
      simp (disch := first | omega | (simp only [newRow_size, Array.size_setIfInBounds, Array.size_push]; done) | (simp only [newRow_size, Array.size_setIfInBounds, Array.size_push]; omega)) [r39_5, c1, c2, c3, hmb, hbe, eqT, eqF, neT, neF, ltT, ltF, leT, leF, nltT, nltF, nleT, nleF, nneT, nneF, List.getElem?_cons_zero, List.getElem?_cons_succ, r39_7, p0, pg, e4, r39_8, p1]
      rw [← hv, ← hcs]
      exact fin g2 cs (fl, 161) _ sg2 (fun c q => ⟨q.1, by omega⟩) kh2 (by omega) hd
    | false =>
      have hd : spoilR n at' turn fl = (fl.set i (n, ⟨p.1.fr, p.1.to, turnB p.1.b (at' % slen p.1.b).toNat turn⟩, true), 0) := by unfold spoilR; rw [hlk]; simp only; rw [if_neg hnb, if_neg (by simp [c5])]
      rw [c5] at e4
      simp (disch := first | omega | (simp only [newRow_size, Array.size_setIfInBounds, Array.size_push]; done) | (simp only [newRow_size, Array.size_setIfInBounds, Array.size_push]; omega)) [r39_5, c1, c2, c3, hmb, hbe, eqT, eqF, neT, neF, ltT, ltF, leT, leF, nltT, nltF, nleT, nleF, nneT, nneF, List.getElem?_cons_zero, List.getElem?_cons_succ, r39_7, p0, pg, e4, r39_9]
      refine spB_spec (F := F) (B := g2.size) (by omega) hmb hmbs (Nat.le_refl _) (by omega) c4 hps ?_
      intro g3 u e kg3 z3 bu
      generalize hT : turnB p.1.b (at' % slen p.1.b).toNat turn = T at bu hd
      have hTl : T.data.toList.length = slen p.1.b := by rw [← hT]; simp [turnB, Array.length_toList]
      obtain ⟨ub, csT, anT, rfl, hub, hct⟩ := Bld.strC bu (by intro e; rw [e] at hTl; simp at hTl; omega)
      have hcl : csT.length = slen T := by rw [hct, List.length_map]; rfl
      have htk : csT.take (slen T) = csT := List.take_of_length_le (by omega)
      have hst : strOf csT = some T.data.toList := by rw [hct]; exact strOf_bytes T.data.toList
      have r0 := (kg3 h.size (by omega)).trans p0
      have r1 := (kg3 (h.size + 1) (by omega)).trans p1
      have rm := (kg3 g1.size (by omega)).trans hmb
      have hTn : ¬ T.data.toList.length = 0 := by omega
      have hTl' : T.data.toList.length = slen T := rfl
      rw [hTl'] at hTn
      simp (disch := first | omega | (simp only [newRow_size, Array.size_setIfInBounds, Array.size_push]; done) | (simp only [newRow_size, Array.size_setIfInBounds, Array.size_push]; omega)) [r39_18, hTn, hub, hcl, htk, hst, rm, r39_19, r0]
      generalize hgg : Ev.newRow (Array.setIfInBounds g3 g1.size (.cells [.int .i64 p.1.fr, .int .i64 p.1.to, .string ⟨T.data⟩] 0 true [])) [.slice none 0 0, .int .i64 last, .bool false] 0 [] = gg
      have rms := lt_of_get rm
      have zz : gg.size = g3.size + 1 := by rw [← hgg]; simp
      have t1 : hget gg g1.size = some (.cells [.int .i64 p.1.fr, .int .i64 p.1.to, .string T] 0 true []) := by rw [← hgg]; simp (disch := first | omega | (simp only [newRow_size, Array.size_setIfInBounds, Array.size_push]; done) | (simp only [newRow_size, Array.size_setIfInBounds, Array.size_push]; omega)) []
      have t2 : hget gg g3.size = some (.cells [.slice none 0 0, .int .i64 last, .bool false] 0 true []) := by rw [← hgg]; simp
      have t3 : ∀ b, b < g2.size → b ≠ g1.size → hget gg b = hget g3 b := by
        intro b hb hn
        rw [← hgg, newRow_old (by simp; omega)]
        exact set_other fun e => hn e.symm
      clear hgg
      have t0 := (t3 h.size (by omega) (by omega)).trans r0
      have t5 := (t3 (h.size + 1) (by omega) (by omega)).trans r1
      have sgg : SlR (fun c => ok c ∧ c < h.size) 5 PclC gg (.slice (some ⟨b, o, none⟩) fl.length c) fl := by
        have s2 := sv1
        rw [hv] at s2
        refine SlF.imp s2 (fun _ _ q => q) (fun b zs hb hz => (cel_congr ?_).trans hz)
        have hb2 : b < h.size := hb.2
        rw [t3 b (by omega) (by omega), kg3 b (by omega), kN.get (by omega) (by simp)]
      refine spF_spec (F := F) (m := ⟨p.1.fr, p.1.to, T⟩) (by omega) t0 t1 t2 (by omega) (by omega) sgg (fun c q => by have := q.2; omega) hl hil ?_
      intro g6 w e' kg6 z6 n6 bw
      have ow := bw.sl.one
      simp only [oneCell] at ow
      have u1 := (kg6 (h.size + 1) (by omega) (by omega)).trans t5
      simp (disch := first | omega | (simp only [newRow_size, Array.size_setIfInBounds, Array.size_push]; done) | (simp only [newRow_size, Array.size_setIfInBounds, Array.size_push]; omega)) [r39_28, n6, ow, u1]
      rw [← hnf]
      refine fin g6 [w, .int .i64 last, .bool nn] _ (fun c => gg.size ≤ c) ⟨w, rfl, bw.sl⟩ (fun c q => ⟨hok c (by omega), by omega⟩) ?_ (by omega) hd
      refine ⟨by omega, fun c hc _ => ?_⟩
      rw [kg6 c (by omega) (by omega), t3 c (by omega) (by omega), kg3 c (by omega)]
      exact kh2.get hc (by simp)

end Go.Proofs.Ytmenfnapbggglaa

/- The desk: how its one list lies in memory (Dk0, Dk2, Dk3 of the queue's seat, what is needed of them). -/
set_option linter.unusedSimpArgs false
set_option linter.unusedVariables false
namespace Go.Ev
/-- A list at the beginning of its block, with room; an: what it grew out of. -/
def Lay (w : Nat) (h : H) (v : Value) (n b : Nat) (cs : List Value) (an : List Nat) : Prop :=
  ∃ c, v = .slice (some ⟨b, 0, none⟩) n c ∧ hget h b = some (.cells cs w true an) ∧ cs.length = c * w ∧ n ≤ c

theorem kill_kept : ∀ (l : List Nat) (h : H), Kept h (kill h l) l ∧ (kill h l).size = h.size
  | [], h => ⟨Kept.refl _ _, rfl⟩
  | a :: r, h => by
    obtain ⟨k, z⟩ := kill_kept r (h.setIfInBounds a .dead)
    refine ⟨⟨by show h.size ≤ (kill (h.setIfInBounds a .dead) r).size; rw [z]; simp, fun b hb hn => ?_⟩, by show (kill (h.setIfInBounds a .dead) r).size = h.size; rw [z]; simp⟩
    simp only [List.mem_cons, not_or] at hn
    have n1 : ¬ a = b := fun e => hn.1 e.symm
    exact (k.get (by simpa using hb) hn.2).trans (set_other n1)

/-- One element put behind: in place, or in a new block. -/
theorem Lay.app {w : Nat} {h : H} {v : Value} {n b : Nat} {cs : List Value} {an : List Nat} {bytes : Nat} (s : Lay w h v n b cs an) (hba : b ∉ an) {new : List Value} (hn : new.length = w) (ho : new.all oneCell = true) (hb : (n + 1) * bytes ≤ 2 ^ 47) :
    Ans (appendTo h w bytes v 1 new) fun v' h' => ∃ b' cs' an', Lay w h' v' (n + 1) b' cs' an' ∧ cs'.take ((n + 1) * w) = cs.take (n * w) ++ new ∧ (b' = b ∧ an' = [] ∧ h'.size = h.size ∨ b' = h.size ∧ an' = b :: an ∧ h'.size = h.size + 1) ∧ Kept h h' (b :: an) := by
  obtain ⟨c, rfl, hg, hl, hc⟩ := s
  have hbs := lt_of_get hg
  have h1 : (n + 1) * w = n * w + w := Nat.succ_mul n w
  by_cases hroom : n + 1 ≤ c
  · have h2 : (n + 1) * w ≤ c * w := Nat.mul_le_mul_right _ hroom
    have hlen : (cs.take (n * w)).length = n * w := by rw [List.length_take]; omega
    obtain ⟨kk, zk⟩ := kill_kept an h
    have hk : hget (kill h an) b = some (.cells cs w true an) := (kk.get hbs hba).trans hg
    refine ⟨.slice (some ⟨b, 0, none⟩) (n + 1) c, (kill h an).setIfInBounds b (.cells (cs.take (n * w) ++ new ++ cs.drop (n * w + w)) w true []), ?_, b, cs.take (n * w) ++ new ++ cs.drop (n * w + w), [], ⟨c, rfl, by simp [hbs, zk], ?_, hroom⟩, ?_, .inl ⟨rfl, rfl, by simp [zk]⟩, ⟨by simp [zk], fun d hd hn' => ?_⟩⟩
    · have : n * w + w ≤ cs.length := by omega
      simp [appendTo, hroom, wr, hg, hn, this]
      rw [if_pos (by simpa [oneCell] using ho)]
    · simp [hn]; omega
    · rw [h1, List.take_append_of_le_length (by simp [hn]; omega), List.take_of_length_le (by simp [hn]; omega)]
    · simp only [List.mem_cons, not_or] at hn'
      have n1 : ¬ b = d := fun e => hn'.1 e.symm
      rw [set_other n1]
      exact kk.get hd hn'.2
  · have hnc : n = c := by omega
    subst hnc
    have e2 : cs.take (n * w) = cs := List.take_of_length_le (by omega)
    refine ⟨.slice (some ⟨h.size, 0, none⟩) (n + 1) (n + 1), newRow (h.setIfInBounds b (.cells cs w false an)) (cs ++ new) w (b :: an), ?_, h.size, cs ++ new, b :: an, ⟨n + 1, rfl, by simp, by simp [hn]; omega, Nat.le_refl _⟩, ?_, .inr ⟨rfl, rfl, by simp⟩, ⟨by simp, fun d hd hn' => ?_⟩⟩
    · have hb' : (n + 1) * bytes ≤ 140737488355328 := by simpa using hb
      have hnl : ¬ n + 1 ≤ n := by omega
      have hle : n * w ≤ cs.length := by omega
      simp [appendTo, hb', hg, hl, hnl, e2, hle]
    · rw [e2, List.take_of_length_le (by simp [hn]; omega)]
    · simp only [List.mem_cons, not_or] at hn'
      have n1 : ¬ b = d := fun e => hn'.1 e.symm
      simp [hd, n1]

theorem Lay.kept {w : Nat} {h h' : H} {v : Value} {n b : Nat} {cs : List Value} {an L : List Nat} (s : Lay w h v n b cs an) (k : Kept h h' L) (hb : b ∉ L) : Lay w h' v n b cs an := by
  obtain ⟨c, e1, e2, e3, e4⟩ := s
  exact ⟨c, e1, (k.get (lt_of_get e2) hb).trans e2, e3, e4⟩
theorem Lay.lt {w : Nat} {h : H} {v : Value} {n b : Nat} {cs : List Value} {an : List Nat} (s : Lay w h v n b cs an) : b < h.size := by
  obtain ⟨c, e1, e2, e3, e4⟩ := s
  exact lt_of_get e2
theorem Lay.len {w : Nat} {h : H} {v : Value} {n b : Nat} {cs : List Value} {an : List Nat} (s : Lay w h v n b cs an) : n * w ≤ cs.length := by
  obtain ⟨c, e1, e2, e3, e4⟩ := s
  rw [e3]
  exact Nat.mul_le_mul_right _ e4

/-- A list that may be none yet. -/
def LayO (w : Nat) (h : H) (v : Value) (n : Nat) (own : List Nat) (cs : List Value) : Prop :=
  (v = .slice none 0 0 ∧ n = 0 ∧ own = [] ∧ cs = []) ∨ ∃ b an, own = b :: an ∧ Lay w h v n b cs an

theorem LayO.kept {w : Nat} {h h' : H} {v : Value} {n : Nat} {own : List Nat} {cs : List Value} {L : List Nat} (s : LayO w h v n own cs) (k : Kept h h' L) (hb : ∀ c ∈ own, c ∉ L) : LayO w h' v n own cs := by
  rcases s with s | ⟨b, an, rfl, s⟩
  · exact .inl s
  · exact .inr ⟨b, an, rfl, s.kept k (hb b (by simp))⟩

/-- From one state to the next: only owned blocks change, and what is owned then is owned already, or new. -/
def Moves (h h' : H) (O O' : List Nat) : Prop := Kept h h' O ∧ ∀ c ∈ O', c ∈ O ∨ h.size ≤ c

theorem Moves.refl (h : H) (O : List Nat) : Moves h h O O := ⟨Kept.refl _ _, fun _ q => .inl q⟩
theorem Moves.trans {h h1 h2 : H} {O O1 O2 : List Nat} (a : Moves h h1 O O1) (b : Moves h1 h2 O1 O2) : Moves h h2 O O2 := by
  refine ⟨⟨Nat.le_trans a.1.1 b.1.1, fun c hc hn => ?_⟩, fun c hc => ?_⟩
  · refine (b.1.get (Nat.lt_of_lt_of_le hc a.1.1) (fun q => ?_)).trans (a.1.get hc hn)
    rcases a.2 c q with q | q
    · exact hn q
    · omega
  · rcases b.2 c hc with q | q
    · exact a.2 c q
    · have := a.1.1
      exact .inr (by omega)
theorem Moves.cons {h h' : H} {O O' : List Nat} (a : Moves h h' O O') (d : Nat) : Moves h h' (d :: O) (d :: O') := by
  refine ⟨a.1.weak (fun c q => List.mem_cons_of_mem _ q), fun c hc => ?_⟩
  rcases List.mem_cons.1 hc with rfl | hc
  · exact .inl (by simp)
  · rcases a.2 c hc with q | q
    · exact .inl (List.mem_cons_of_mem _ q)
    · exact .inr q
theorem Moves.of {h h' : H} {L O : List Nat} (k : Kept h h' L) (hL : ∀ c ∈ L, c ∈ O) : Moves h h' O O := ⟨k.weak hL, fun _ q => .inl q⟩
theorem Moves.right {h h' : H} {O O' : List Nat} (a : Moves h h' O O') (R : List Nat) : Moves h h' (O ++ R) (O' ++ R) := by
  refine ⟨a.1.weak (fun c q => List.mem_append_left _ q), fun c hc => ?_⟩
  rcases List.mem_append.1 hc with hc | hc
  · rcases a.2 c hc with q | q
    · exact .inl (List.mem_append_left _ q)
    · exact .inr q
  · exact .inl (List.mem_append_right _ hc)
theorem Moves.left {h h' : H} {O O' : List Nat} (a : Moves h h' O O') (R : List Nat) : Moves h h' (R ++ O) (R ++ O') := by
  refine ⟨a.1.weak (fun c q => List.mem_append_right _ q), fun c hc => ?_⟩
  rcases List.mem_append.1 hc with hc | hc
  · exact .inl (List.mem_append_left _ hc)
  · rcases a.2 c hc with q | q
    · exact .inl (List.mem_append_right _ q)
    · exact .inr q
/-- What is not owned stays so. -/
theorem Moves.out {h h' : H} {O O' : List Nat} (a : Moves h h' O O') {c : Nat} (hc : c < h.size) (hn : c ∉ O) : c ∉ O' := fun q => by
  rcases a.2 c q with q | q
  · exact hn q
  · omega

theorem LayO.lenV {w : Nat} {h : H} {v : Value} {n : Nat} {own : List Nat} {cs : List Value} (s : LayO w h v n own cs) : lenV v = some (.int .i64 n) := by
  rcases s with ⟨rfl, rfl, _⟩ | ⟨b, an, _, c, rfl, _⟩ <;> simp [Ev.lenV]
theorem LayO.one {w : Nat} {h : H} {v : Value} {n : Nat} {own : List Nat} {cs : List Value} (s : LayO w h v n own cs) : oneCell v = true := by
  rcases s with ⟨rfl, rfl, _⟩ | ⟨b, an, _, c, rfl, _⟩ <;> rfl

theorem LayO.vc {w : Nat} {h : H} {v : Value} {n : Nat} {own : List Nat} {cs : List Value} (s : LayO w h v n own cs) : vcells v = some [v] := by
  rcases s with ⟨rfl, rfl, _⟩ | ⟨b, an, _, c, rfl, _⟩ <;> rfl

theorem LayO.sameV {w : Nat} {h : H} {v : Value} {n : Nat} {own : List Nat} {cs : List Value} (s : LayO w h v n own cs) : Ev.sameV v v = true := by
  rcases s with ⟨rfl, rfl, _⟩ | ⟨b, an, _, c, rfl, _⟩ <;> simp [Ev.sameV, sameCell]

/-- Some elements put behind: in place, or in a new block. -/
theorem LayO.appN {w k : Nat} {h : H} {v : Value} {n : Nat} {own : List Nat} {cs : List Value} {bytes : Nat} (s : LayO w h v n own cs) (hnd : own.Nodup) (hlt : ∀ c ∈ own, c < h.size) {new : List Value} (hn : new.length = k * w) (ho : new.all oneCell = true) (hb : (n + k) * bytes ≤ 2 ^ 47) :
    Ans (appendTo h w bytes v k new) fun v' h' => ∃ own' cs', LayO w h' v' (n + k) own' cs' ∧ cs'.take ((n + k) * w) = cs.take (n * w) ++ new ∧ own'.Nodup ∧ (∀ c ∈ own', c < h'.size) ∧ Moves h h' own own' := by
  rcases Nat.eq_zero_or_pos k with rfl | hk
  · have : new = [] := by rw [Nat.zero_mul] at hn; exact List.length_eq_zero_iff.1 hn
    subst this
    rcases s with ⟨rfl, rfl, rfl, rfl⟩ | ⟨b, an, rfl, c, rfl, hg, hl, hc⟩
    · exact ⟨.slice none 0 0, h, by simp [appendTo], [], [], .inl ⟨rfl, rfl, rfl, rfl⟩, by simp, by simp, by simp, Moves.refl _ _⟩
    · exact ⟨.slice (some ⟨b, 0, none⟩) n c, h, by simp [appendTo], b :: an, cs, .inr ⟨b, an, rfl, c, rfl, hg, hl, hc⟩, by simp, hnd, hlt, Moves.refl _ _⟩
  have hk0 : ¬ k = 0 := by omega
  have h1 : (n + k) * w = n * w + k * w := Nat.add_mul _ _ _
  have hb' : (n + k) * bytes ≤ 140737488355328 := by simpa using hb
  rcases s with ⟨rfl, rfl, rfl, rfl⟩ | ⟨b, an, rfl, c, rfl, hg, hl, hc⟩
  · rw [Nat.zero_add] at hb' h1 ⊢
    refine ⟨.slice (some ⟨h.size, 0, none⟩) k k, newRow h new w [], by simp [appendTo, hb', hk0], [h.size], new, .inr ⟨h.size, [], rfl, k, rfl, by simp, hn, Nat.le_refl _⟩, by rw [List.take_of_length_le (by omega)]; simp, by simp, by simp, ⟨rowKept _ _ _ _, by simp⟩⟩
  · have hbs := lt_of_get hg
    have hba : b ∉ an := (List.nodup_cons.1 hnd).1
    have hcl : n * w ≤ c * w := Nat.mul_le_mul_right _ hc
    by_cases hroom : n + k ≤ c
    · have h2 : (n + k) * w ≤ c * w := Nat.mul_le_mul_right _ hroom
      have hlen : (cs.take (n * w)).length = n * w := by rw [List.length_take]; omega
      obtain ⟨kk, zk⟩ := kill_kept an h
      refine ⟨.slice (some ⟨b, 0, none⟩) (n + k) c, (kill h an).setIfInBounds b (.cells (cs.take (n * w) ++ new ++ cs.drop (n * w + k * w)) w true []), ?_, [b], cs.take (n * w) ++ new ++ cs.drop (n * w + k * w), .inr ⟨b, [], rfl, c, rfl, by simp [hbs, zk], ?_, hroom⟩, ?_, by simp, by simp [zk, hbs], ⟨⟨by simp [zk], fun d hd hn' => ?_⟩, by simp⟩⟩
      · have : n * w + k * w ≤ cs.length := by omega
        simp [appendTo, hk0, hroom, wr, hg, hn, this]
        rw [if_pos (by simpa [oneCell] using ho)]
      · simp [hn]; omega
      · rw [h1, List.take_append_of_le_length (by simp [hn]; omega), List.take_of_length_le (by simp [hn]; omega)]
      · simp only [List.mem_cons, not_or] at hn'
        have n1 : ¬ b = d := fun e => hn'.1 e.symm
        rw [set_other n1]
        exact kk.get hd hn'.2
    · have hle : n * w ≤ cs.length := by omega
      have hlen : (cs.take (n * w)).length = n * w := by rw [List.length_take]; omega
      have hg' : h[b]? = some (.cells cs w true an) := hg
      by_cases he : n * w = cs.length
      · have e2 : cs.take (n * w) = cs := List.take_of_length_le (by omega)
        refine ⟨.slice (some ⟨h.size, 0, none⟩) (n + k) (n + k), newRow (h.setIfInBounds b (.cells cs w false an)) (cs ++ new) w (b :: an), ?_, h.size :: b :: an, cs ++ new, .inr ⟨h.size, b :: an, rfl, n + k, rfl, by simp, by simp [hn]; omega, Nat.le_refl _⟩, ?_, ?_, ?_, ⟨⟨by simp, fun d hd hn' => ?_⟩, ?_⟩⟩
        · simp only [appendTo, if_neg hk0, if_neg hroom, if_pos hb, hg']
          simp [he, e2, hl.symm]
        · rw [e2, List.take_of_length_le (by simp [hn]; omega)]
        · rw [List.nodup_cons]
          exact ⟨fun q => by have := hlt _ q; omega, hnd⟩
        · intro x hx
          rcases List.mem_cons.1 hx with rfl | hx
          · simp
          · have := hlt x hx; simp; omega
        · simp only [List.mem_cons, not_or] at hn'
          have n1 : ¬ b = d := fun e => hn'.1 e.symm
          simp [hd, n1]
        · intro x hx
          rcases List.mem_cons.1 hx with rfl | hx
          · exact .inr (Nat.le_refl _)
          · exact .inl hx
      · obtain ⟨kk, zk⟩ := kill_kept (b :: an) h
        refine ⟨.slice (some ⟨h.size, 0, none⟩) (n + k) (n + k), newRow (kill h (b :: an)) (cs.take (n * w) ++ new) w [], ?_, [h.size], cs.take (n * w) ++ new, .inr ⟨h.size, [], rfl, n + k, rfl, ?_, by simp [hn]; omega, Nat.le_refl _⟩, ?_, by simp, by simp [zk], ⟨⟨by simp [zk], fun d hd hn' => ?_⟩, by simp⟩⟩
        · simp only [appendTo, if_neg hk0, if_neg hroom, if_pos hb, hg']
          simp [he, hl.symm]
        · rw [← zk]; simp
        · rw [List.take_of_length_le (by simp [hn]; omega)]
        · rw [newRow_old (by rw [zk]; exact hd)]
          exact kk.get hd hn'

/-- An element written over. -/
theorem LayO.set {w : Nat} {h : H} {v : Value} {n i : Nat} {own : List Nat} {cs new : List Value} (s : LayO w h v n own cs) (hnd : own.Nodup) (hi : i < n) (hn : new.length = w) (ho : new.all oneCell = true) :
    ∃ b an c, own = b :: an ∧ v = .slice (some ⟨b, 0, none⟩) n c ∧ hget h b = some (.cells cs w true an) ∧ i * w + w ≤ cs.length ∧
      LayO w ((kill h an).setIfInBounds b (.cells (cs.take (i * w) ++ new ++ cs.drop (i * w + w)) w true [])) v n [b] (cs.take (i * w) ++ new ++ cs.drop (i * w + w)) ∧ Kept h ((kill h an).setIfInBounds b (.cells (cs.take (i * w) ++ new ++ cs.drop (i * w + w)) w true [])) own := by
  rcases s with ⟨rfl, rfl, _⟩ | ⟨b, an, rfl, c, rfl, hg, hl, hc⟩
  · omega
  have hbs := lt_of_get hg
  obtain ⟨kk, zk⟩ := kill_kept an h
  have h2 : (i + 1) * w ≤ c * w := Nat.mul_le_mul_right _ (by omega)
  rw [Nat.succ_mul] at h2
  refine ⟨b, an, c, rfl, rfl, hg, by omega, .inr ⟨b, [], rfl, c, rfl, by simp [hbs, zk], by simp [hn]; omega, hc⟩, ⟨by simp [zk], fun d hd hn' => ?_⟩⟩
  simp only [List.mem_cons, not_or] at hn'
  have n1 : ¬ b = d := fun e => hn'.1 e.symm
  rw [set_other n1]
  exact kk.get hd hn'.2

end Go.Ev

/- short, over what a slice reads as. -/
set_option linter.unusedSimpArgs false
set_option linter.unusedVariables false
namespace Go.Proofs.Ytmenfnapbggglaa
open Go.Ev

theorem cut_get {l : List Msg} {i : Nat} {m : Msg} (hm : l[i]? = some m) (hi : i < 300) : (cut l)[i]? = some (cutM m) := by
  unfold cut
  rw [List.getElem?_map, List.getElem?_take_of_lt hi, hm]; rfl

set_option maxHeartbeats 1000000 in
theorem cutS_spec {F : Nat} (hF : 1000 ≤ F) {ok : Nat → Prop} {h : H} {v : Value} {l : List Msg} (s : SlR ok 3 MsgC h v l) :
    Ans (cf F 14 [v] h) fun u h' => Bld (fun c => h.size ≤ c) 3 MsgC h' u (cut l) ∧ Kept h h' [] := by
  generalize hQ : (fun (u : Value) (h' : H) => Bld (fun c => h.size ≤ c) 3 MsgC h' u (cut l) ∧ Kept h h' []) = Q
  obtain ⟨F, rfl⟩ : ∃ G, F = G + 1 := ⟨F - 1, by omega⟩
  have hln := s.len
  have hcl := cut_length l
  rw [cf_step (a := a14) rfl rfl (by simp [a14])]
  simp (disch := first | omega | (simp only [newRow_size, Array.size_setIfInBounds, Array.size_push]; done) | (simp only [newRow_size, Array.size_setIfInBounds, Array.size_push]; omega)) [a14, r14_0, r14_1, r14_2]
  refine loop_rule (fun m e g' => ∃ (i : Nat) (u : Value), m = (cut l).length - i ∧ i ≤ (cut l).length ∧ e = [(0, v), (3, u), (4, .int .i64 i)] ∧ (∀ b, b < h.size → hget g' b = hget h b) ∧ h.size ≤ g'.size ∧ Bld (fun c => h.size ≤ c) 3 MsgC g' u ((cut l).take i)) ?_ _ (cut l).length _ _ (by omega) ⟨0, .slice none 0 0, by omega, by omega, rfl, fun _ _ => rfl, by omega, Bld.nil _ _ _ _⟩
  rintro m e g again ⟨i, u, rfl, hi, rfl, kg, zg, bu⟩ ih
  have hw : IntKind.i64.wrap ((i : Int) + 1) = ((i + 1 : Nat) : Int) := by rw [wrap_id (by omega) (by omega)]; rfl
  have sg : SlR (fun c => ok c ∧ c < h.size) 3 MsgC g v l := SlM.imp s (fun c hc q => ⟨q, hc⟩) (fun b zs hb hz => (cel_congr (kg b (cel_lt hz))).trans hz)
  by_cases hlt : i < (cut l).length
  · have hil : i < l.length := by omega
    obtain ⟨x, hx⟩ : ∃ x, l[i]? = some x := ⟨_, List.getElem?_eq_getElem hil⟩
    obtain ⟨b, o, c, csx, es, lv, an, rfl, hk, hg, hle, hpc⟩ := sg.at' hx
    have hpc' : (csx.drop (o + i * 3)).take 3 = [.int .i64 x.fr, .int .i64 x.to, .string x.b] := hpc
    have hgs := lt_of_get hg
    have h300 : (i : Int) < 300 := by omega
    have hil' : (i : Int) < (l.length : Int) := by omega
    have step : ∀ (y : Msg) (g1 : H), y = cutM x → hget g1 g.size = some (.cells [.int .i64 y.fr, .int .i64 y.to, .string y.b] 0 true []) → Kept g g1 [] →
        Ans (evR (cf F) r14_7 [(0, .slice (some ⟨b, o, none⟩) l.length c), (3, u), (4, .int .i64 i), (5, .pointer (some ⟨g.size, 0, none⟩))] g1 (evC F (cf F) (.region r14_8 [0, 3, 4]) (keepK [0, 3, 4] again) (putK 0 (evC F (cf F) ((ACode.region r14_10 [2]).seq .ret) (endK (cfX XD) [.tmp 2]) noK (endK (cfX XD) [.tmp 2])) noK) (endK (cfX XD) [.tmp 2])) [0, 3, 4] []) Q := by
      intro y g1 hy h1 k1
      have h1s := lt_of_get h1
      have y1 := k1.1
      simp (disch := first | omega | (simp only [newRow_size, Array.size_setIfInBounds, Array.size_push]; done) | (simp only [newRow_size, Array.size_setIfInBounds, Array.size_push]; omega)) [r14_7, h1, srcOf]
      have kN := rowKept g1 [.int .i64 y.fr, .int .i64 y.to, .string y.b] 3 []
      have bN := (bu.kept k1 (by simp) (fun cs t _ q => q)).kept kN (by simp) (fun cs t _ q => q)
      refine Ans.next (bN.push (x := y) (bytes := 32) msg_any rfl (by rw [List.length_take]; omega) (by simp; omega) rfl) ?_
      rintro u' h5 ⟨b5, z5, g5, _⟩
      simp only [newRow_size] at z5
      simp (disch := first | omega | (simp only [newRow_size, Array.size_setIfInBounds, Array.size_push]; done) | (simp only [newRow_size, Array.size_setIfInBounds, Array.size_push]; omega)) [r14_8, hw]
      refine ih ((cut l).length - (i + 1)) _ _ (by omega) ⟨i + 1, u', rfl, by omega, rfl, fun b hb => (g5 b (by omega)).trans ((kN.get (by omega) (by simp)).trans ((k1.get (by omega) (by simp)).trans (kg b hb))), by omega, ?_⟩
      rw [take_snoc (cut_get hx (by omega)), ← hy]
      exact b5
    by_cases h600 : 600 < slen x.b
    · have h600' : (600 : Int) < (slen x.b : Int) := by omega
      have hle6 : 600 ≤ slen x.b := by omega
      have := step ⟨x.fr, x.to, x.b.extract 0 600⟩
      simp (disch := first | omega | (simp only [newRow_size, Array.size_setIfInBounds, Array.size_push]; done) | (simp only [newRow_size, Array.size_setIfInBounds, Array.size_push]; omega)) [l14_9, r14_3, hln, hil', h300, eqT, eqF, neT, neF, ltT, ltF, leT, leF, nltT, nltF, nleT, nleF, nneT, nneF, List.getElem?_cons_zero, List.getElem?_cons_succ, r14_4, hg, hpc', r14_5, h600', r14_6, hle6, optInt]
      refine this _ (by simp [cutM, h600]) ?_ ?_
      · simp (disch := first | omega | (simp only [newRow_size, Array.size_setIfInBounds, Array.size_push]; done) | (simp only [newRow_size, Array.size_setIfInBounds, Array.size_push]; omega)) []
      · exact ⟨by simp, fun c hc _ => by simp (disch := first | omega | (simp only [newRow_size, Array.size_setIfInBounds, Array.size_push]; done) | (simp only [newRow_size, Array.size_setIfInBounds, Array.size_push]; omega)) [hc, Nat.ne_of_gt hc]⟩
    · have h600' : ¬ (600 : Int) < (slen x.b : Int) := by omega
      have := step x
      simp (disch := first | omega | (simp only [newRow_size, Array.size_setIfInBounds, Array.size_push]; done) | (simp only [newRow_size, Array.size_setIfInBounds, Array.size_push]; omega)) [l14_9, r14_3, hln, hil', h300, eqT, eqF, neT, neF, ltT, ltF, leT, leF, nltT, nltF, nleT, nleF, nneT, nneF, List.getElem?_cons_zero, List.getElem?_cons_succ, r14_4, hg, hpc', r14_5, h600']
      refine this _ (by simp [cutM, h600]) ?_ ?_
      · simp (disch := first | omega | (simp only [newRow_size, Array.size_setIfInBounds, Array.size_push]; done) | (simp only [newRow_size, Array.size_setIfInBounds, Array.size_push]; omega)) []
      · exact ⟨by simp, fun c hc _ => by simp (disch := first | omega | (simp only [newRow_size, Array.size_setIfInBounds, Array.size_push]; done) | (simp only [newRow_size, Array.size_setIfInBounds, Array.size_push]; omega)) [hc, Nat.ne_of_gt hc]⟩
  · have hii : i = (cut l).length := by omega
    rw [hii, List.take_length] at bu
    by_cases hil : i < l.length
    · have h300 : ¬ (i : Int) < 300 := by omega
      have hil' : (i : Int) < (l.length : Int) := by omega
      simp (disch := first | omega | (simp only [newRow_size, Array.size_setIfInBounds, Array.size_push]; done) | (simp only [newRow_size, Array.size_setIfInBounds, Array.size_push]; omega)) [l14_9, r14_3, hln, hil', h300, eqT, eqF, neT, neF, ltT, ltF, leT, leF, nltT, nltF, nleT, nleF, nneT, nneF, List.getElem?_cons_zero, List.getElem?_cons_succ, r14_10]
      subst hQ
      exact Ans.of ⟨bu, ⟨zg, fun c hc _ => kg c hc⟩⟩
    · have hil' : ¬ (i : Int) < (l.length : Int) := by omega
      simp (disch := first | omega | (simp only [newRow_size, Array.size_setIfInBounds, Array.size_push]; done) | (simp only [newRow_size, Array.size_setIfInBounds, Array.size_push]; omega)) [l14_9, r14_3, hln, hil', eqT, eqF, neT, neF, ltT, ltF, leT, leF, nltT, nltF, nleT, nleF, nneT, nneF, List.getElem?_cons_zero, List.getElem?_cons_succ, r14_10]
      subst hQ
      exact Ans.of ⟨bu, ⟨zg, fun c hc _ => kg c hc⟩⟩

end Go.Proofs.Ytmenfnapbggglaa

/- The program's line, there or nil: what its functions answer, in the document's words. -/
set_option linter.unusedSimpArgs false
set_option linter.unusedVariables false
namespace Go.Proofs.Ytmenfnapbggglaa
open Go.Ev

def LS (h : H) (lv : Value) (fl : Flight) (last : Int) (nn : Bool) (W : List Nat) : Prop :=
  (lv = .pointer none ∧ nn = true ∧ fl = [] ∧ W = []) ∨ ∃ b m, lv = .pointer (some ⟨b, 0, none⟩) ∧ nn = false ∧ LineAt h b m fl last ∧ W = b :: m.toList

section
variable {h h' : H} {lv : Value} {fl : Flight} {last : Int} {nn : Bool} {W L : List Nat}
theorem LS.lt (s : LS h lv fl last nn W) : ∀ c ∈ W, c < h.size := by
  rcases s with ⟨_, _, _, rfl⟩ | ⟨b, m, _, _, s, rfl⟩
  · simp
  · intro c hc
    rcases List.mem_cons.1 hc with rfl | hc
    · exact lt_of_get s.line
    · rw [Option.mem_toList] at hc
      exact lt_of_get (s.yes c hc).2
theorem LS.kept (s : LS h lv fl last nn W) (k : Kept h h' L) (hL : ∀ c ∈ W, c ∉ L) : LS h' lv fl last nn W := by
  rcases s with s | ⟨b, m, e, e2, s, rfl⟩
  · exact .inl s
  · refine .inr ⟨b, m, e, e2, ⟨(k.get (lt_of_get s.line) (hL b (by simp))).trans s.line, s.no, fun x hx => ⟨(s.yes x hx).1, (k.get (lt_of_get (s.yes x hx).2) (hL x (by simp [hx]))).trans (s.yes x hx).2⟩⟩, rfl⟩
theorem LS.none_fl (s : LS h lv fl last nn W) : nn = true → fl = [] := by
  rcases s with ⟨_, _, e, _⟩ | ⟨b, m, _, e2, s, rfl⟩
  · exact fun _ => e
  · intro e; rw [e2] at e; cases e
/-- What is in the line's memory is a line or a map, no row of a list. -/
theorem LS.no_row (s : LS h lv fl last nn W) {b : Nat} {cs : List Value} {es : Nat} {lv' : Bool} {an : List Nat} (hb : b ∈ W) (he : es ≠ 0) : hget h b ≠ some (.cells cs es lv' an) := by
  rcases s with ⟨_, _, _, rfl⟩ | ⟨b', m, _, _, s, rfl⟩
  · simp at hb
  · intro e
    rcases List.mem_cons.1 hb with rfl | hb
    · rw [s.line] at e
      injection e with e
      injection e with _ e _ _
      exact he e.symm
    · rw [Option.mem_toList] at hb
      rw [(s.yes b hb).2] at e
      cases e
end

theorem kept_row {h g : H} (k : Kept h g []) (cs : List Value) (es : Nat) (an : List Nat) : Kept h (Ev.newRow g cs es an) [] := k.trans (rowKept _ _ _ _)
theorem kept_set {h g : H} (k : Kept h g []) {b : Nat} (hb : h.size ≤ b) (x : Blk) : Kept h (g.setIfInBounds b x) [] :=
  ⟨by have := k.1; simp; omega, fun c hc _ => by rw [set_other (by omega)]; exact k.get hc (by simp)⟩

theorem look_nil {F : Nat} (hF : 1 ≤ F) (n : Int) (h : H) : Ans (cf F 19 [.pointer none, .int .i64 n] h) fun v h' => v = .tuple ⟨[Msg.zero.val, .int .i64 160]⟩ ∧ Kept h h' [] := by
  obtain ⟨F, rfl⟩ : ∃ G, F = G + 1 := ⟨F - 1, by omega⟩
  rw [cf_step (a := a19) rfl rfl (by simp [a19])]
  simp (disch := first | omega | (simp only [newRow_size, Array.size_setIfInBounds, Array.size_push]; done) | (simp only [newRow_size, Array.size_setIfInBounds, Array.size_push]; omega)) [a19, r19_0, r19_1, nilEq, r19_2, eqT, eqF, neT, neF, ltT, ltF, leT, leF, nltT, nltF, nleT, nleF, nneT, nneF, List.getElem?_cons_zero, List.getElem?_cons_succ]
  exact Ans.of ⟨rfl, rowKept _ _ _ _⟩

theorem LS.look {F : Nat} (hF : 1 ≤ F) {h : H} {lv : Value} {fl : Flight} {last : Int} {nn : Bool} {W : List Nat} (s : LS h lv fl last nn W) (n : Int) :
    Ans (cf F 19 [lv, .int .i64 n] h) fun v h' => v = .tuple ⟨[(lookM n fl).1.val, .int .i64 (lookM n fl).2]⟩ ∧ Kept h h' [] := by
  rcases s with ⟨rfl, _, rfl, rfl⟩ | ⟨b, m, rfl, _, s, rfl⟩
  · exact look_nil hF n h
  · obtain ⟨F, rfl⟩ : ∃ G, F = G + 1 := ⟨F - 1, by omega⟩
    refine (look_spec F s n).mono ?_
    rintro v h' ⟨rfl, k⟩
    refine ⟨?_, k.kept (by simp)⟩
    unfold lookM
    cases lk n fl 0 <;> rfl

theorem take_nil {F : Nat} (hF : 2 ≤ F) (n : Int) (h : H) : Ans (cf F 35 [.pointer none, .int .i64 n] h) fun v h' => v = .tuple ⟨[Msg.zero.val, .int .i64 160]⟩ ∧ Kept h h' [] := by
  obtain ⟨F, rfl⟩ : ∃ G, F = G + 1 := ⟨F - 1, by omega⟩
  rw [cf_step (a := a35) rfl rfl (by simp [a35])]
  simp (disch := first | omega | (simp only [newRow_size, Array.size_setIfInBounds, Array.size_push]; done) | (simp only [newRow_size, Array.size_setIfInBounds, Array.size_push]; omega)) [a35, r35_0, r35_1]
  have kR := rowKept h [.int .i64 0, .int .i64 0, .string ⟨#[]⟩] 0 []
  have hR : hget (Ev.newRow h [.int .i64 0, .int .i64 0, .string ⟨#[]⟩] 0 []) h.size = some (.cells [.int .i64 0, .int .i64 0, .string ⟨#[]⟩] 0 true []) := by simp
  generalize Ev.newRow h [.int .i64 0, .int .i64 0, .string ⟨#[]⟩] 0 [] = g at kR hR ⊢
  refine Ans.next (look_nil (F := F) (by omega) n g) ?_
  rintro v h1 ⟨rfl, k1⟩
  have hRs := lt_of_get hR
  have y1 := k1.1
  have h1' := (k1.get hRs (by simp)).trans hR
  have h1s := lt_of_get h1'
  simp (disch := first | omega | (simp only [newRow_size, Array.size_setIfInBounds, Array.size_push]; done) | (simp only [newRow_size, Array.size_setIfInBounds, Array.size_push]; omega)) [Msg.zero, Msg.val, Msg.cells, r35_2, eqT, eqF, neT, neF, ltT, ltF, leT, leF, nltT, nltF, nleT, nleF, nneT, nneF, List.getElem?_cons_zero, List.getElem?_cons_succ, r35_4, h1']
  exact Ans.of ⟨rfl, kept_set (kept_row (kR.trans k1) _ _ _) (by have := kR.1; omega) _⟩

theorem rise_erase {n : Int} : ∀ {fl : Flight} {i j : Nat} {p : Parcel}, (fl.Pairwise fun p q => p.1 < q.1) → lk n fl j = some (i, p) → j ≤ i ∧ fl.eraseIdx (i - j) = notN n fl
  | [], i, j, p, _, e => by simp [lk] at e
  | a :: r, i, j, p, hp, e => by
    rw [List.pairwise_cons] at hp
    unfold lk at e
    split at e
    · rename_i h
      cases e
      refine ⟨Nat.le_refl _, ?_⟩
      rw [Nat.sub_self, List.eraseIdx_cons_zero]
      unfold notN
      rw [List.filter_cons_of_neg (by simp [h]), List.filter_eq_self.2]
      intro q hq
      have := hp.1 q hq
      simp; omega
    · rename_i h
      obtain ⟨h1, h2⟩ := rise_erase hp.2 e
      refine ⟨by omega, ?_⟩
      rw [show i - j = (i - (j + 1)) + 1 by omega, List.eraseIdx_cons_succ, h2]
      unfold notN
      rw [List.filter_cons_of_pos (by simp; exact fun e => h e.symm)]

theorem LS.take {F : Nat} (hF : 3 ≤ F) {h : H} {lv : Value} {fl : Flight} {last : Int} {nn : Bool} {W : List Nat} (s : LS h lv fl last nn W) (w : Fl fl last) (n : Int) :
    Ans (cf F 35 [lv, .int .i64 n] h) fun v h' => v = .tuple ⟨[(lookM n fl).1.val, .int .i64 (lookM n fl).2]⟩ ∧ LS h' lv (takeR n fl) last nn W ∧ Kept h h' W := by
  rcases s with ⟨rfl, e1, rfl, rfl⟩ | ⟨b, m, rfl, e2, s, rfl⟩
  · refine (take_nil (F := F) (by omega) n h).mono ?_
    rintro v h' ⟨rfl, k⟩
    exact ⟨rfl, .inl ⟨rfl, e1, rfl, rfl⟩, k⟩
  · obtain ⟨F, rfl⟩ : ∃ G, F = G + 2 := ⟨F - 2, by omega⟩
    refine (take_spec F s n).mono ?_
    intro v h' q
    unfold lookM takeR
    cases hlk : lk n fl 0 with
    | none =>
      rw [hlk] at q
      obtain ⟨rfl, k⟩ := q
      exact ⟨rfl, .inr ⟨b, m, rfl, e2, s.keeps0 k, rfl⟩, k.kept (by simp)⟩
    | some ip =>
      obtain ⟨i, p⟩ := ip
      rw [hlk] at q
      obtain ⟨rfl, k, l'⟩ := q
      have he := (rise_erase w.rise hlk).2
      rw [Nat.sub_zero] at he
      rw [he] at l'
      exact ⟨rfl, .inr ⟨b, m, rfl, e2, l', rfl⟩, k.kept (by intro c hc; simp [hc])⟩

theorem double_nil {F : Nat} (hF : 2 ≤ F) (n : Int) (h : H) : Ans (cf F 17 [.pointer none, .int .i64 n] h) fun v h' => v = .tuple ⟨[.int .i64 0, .int .i64 160]⟩ ∧ Kept h h' [] := by
  obtain ⟨F, rfl⟩ : ∃ G, F = G + 1 := ⟨F - 1, by omega⟩
  rw [cf_step (a := a17) rfl rfl (by simp [a17])]
  simp (disch := first | omega | (simp only [newRow_size, Array.size_setIfInBounds, Array.size_push]; done) | (simp only [newRow_size, Array.size_setIfInBounds, Array.size_push]; omega)) [a17, r17_0, r17_1]
  refine Ans.next (look_nil (F := F) (by omega) n h) ?_
  rintro v h1 ⟨rfl, k1⟩
  have y1 := k1.1
  simp (disch := first | omega | (simp only [newRow_size, Array.size_setIfInBounds, Array.size_push]; done) | (simp only [newRow_size, Array.size_setIfInBounds, Array.size_push]; omega)) [Msg.zero, Msg.val, Msg.cells, r17_2, r17_3, eqT, eqF, neT, neF, ltT, ltF, leT, leF, nltT, nltF, nleT, nleF, nneT, nneF, List.getElem?_cons_zero, List.getElem?_cons_succ]
  exact Ans.of ⟨rfl, kept_row k1 _ _ _⟩

theorem LS.double {F : Nat} (hF : 3 ≤ F) {h : H} {lv : Value} {fl : Flight} {last : Int} {nn : Bool} {W : List Nat} (s : LS h lv fl last nn W) (w : Fl fl last) (hmax : last ≤ 1000000000) (n : Int) :
    Ans (cf F 17 [lv, .int .i64 n] h) fun v h' => v = .tuple ⟨[.int .i64 (doubleR nn n fl last).2.2.1, .int .i64 (doubleR nn n fl last).2.2.2]⟩ ∧ LS h' lv (doubleR nn n fl last).1 (doubleR nn n fl last).2.1 nn W ∧ Kept h h' W := by
  rcases s with ⟨rfl, e1, rfl, rfl⟩ | ⟨b, m, rfl, e2, s, rfl⟩
  · refine (double_nil (F := F) (by omega) n h).mono ?_
    rintro v h' ⟨rfl, k⟩
    exact ⟨rfl, .inl ⟨rfl, e1, rfl, rfl⟩, k⟩
  · obtain ⟨F, rfl⟩ : ∃ G, F = G + 2 := ⟨F - 2, by omega⟩
    refine (double_spec F s w hmax n).mono ?_
    intro v h' q
    have hpos := w.pos
    unfold doubleR
    cases hlk : lk n fl 0 with
    | none =>
      rw [hlk] at q
      obtain ⟨rfl, k⟩ := q
      exact ⟨rfl, .inr ⟨b, m, rfl, e2, s.keeps0 k, rfl⟩, k.kept (by simp)⟩
    | some ip =>
      obtain ⟨i, p⟩ := ip
      obtain ⟨x, rfl⟩ := s.some_of hlk
      rw [hlk] at q
      simp only at q ⊢
      by_cases hfull : 256 ≤ fl.length
      · have hp : putR nn fl last p = (fl, last, -1) := by unfold putR; rw [if_pos (Or.inr hfull)]
        rw [if_pos hfull] at q
        obtain ⟨rfl, k⟩ := q
        rw [hp, if_pos (show (-1 : Int) < 0 by decide)]
        exact ⟨rfl, .inr ⟨b, _, rfl, e2, s.keeps0 k, rfl⟩, k.kept (by simp)⟩
      · have hp : putR nn fl last p = (fl ++ [(last + 1, p)], last + 1, last + 1) := by unfold putR; rw [if_neg (by simp [e2]; omega)]
        rw [if_neg hfull] at q
        obtain ⟨rfl, k, m', l', hm'⟩ := q
        have hneg : ¬ (last + 1 < 0) := by omega
        rw [hp, if_neg hneg]
        rcases hm' with hm' | ⟨hm', _⟩
        · cases hm'
          refine ⟨rfl, .inr ⟨b, _, rfl, e2, l', rfl⟩, k.kept ?_⟩
          rintro c (rfl | hc)
          · simp
          · cases hc; simp
        · cases hm'

theorem spoil_nil {F : Nat} (hF : 2 ≤ F) (n at' turn : Int) (h : H) : Ans (cf F 18 [.pointer none, .int .i64 n, .int .i64 at', .int .i64 turn] h) fun v h' => v = .int .i64 160 ∧ Kept h h' [] := by
  obtain ⟨F, rfl⟩ : ∃ G, F = G + 1 := ⟨F - 1, by omega⟩
  rw [cf_step (a := a18) rfl rfl (by simp [a18])]
  simp (disch := first | omega | (simp only [newRow_size, Array.size_setIfInBounds, Array.size_push]; done) | (simp only [newRow_size, Array.size_setIfInBounds, Array.size_push]; omega)) [a18, r18_0, r18_1]
  refine Ans.next (look_nil (F := F) (by omega) n h) ?_
  rintro v h1 ⟨rfl, k1⟩
  have y1 := k1.1
  simp (disch := first | omega | (simp only [newRow_size, Array.size_setIfInBounds, Array.size_push]; done) | (simp only [newRow_size, Array.size_setIfInBounds, Array.size_push]; omega)) [Msg.zero, Msg.val, Msg.cells, r18_2, r18_3, eqT, eqF, neT, neF, ltT, ltF, leT, leF, nltT, nltF, nleT, nleF, nneT, nneF, List.getElem?_cons_zero, List.getElem?_cons_succ]
  exact Ans.of ⟨rfl, kept_row k1 _ _ _⟩

theorem LS.spoil {F : Nat} (hF : 3 ≤ F) {h : H} {lv : Value} {fl : Flight} {last : Int} {nn : Bool} {W : List Nat} (s : LS h lv fl last nn W) (n at' turn : Int) :
    Ans (cf F 18 [lv, .int .i64 n, .int .i64 at', .int .i64 turn] h) fun v h' => v = .int .i64 (spoilR n at' turn fl).2 ∧ LS h' lv (spoilR n at' turn fl).1 last nn W ∧ Kept h h' W := by
  rcases s with ⟨rfl, e1, rfl, rfl⟩ | ⟨b, m, rfl, e2, s, rfl⟩
  · refine (spoil_nil (F := F) (by omega) n at' turn h).mono ?_
    rintro v h' ⟨rfl, k⟩
    exact ⟨rfl, .inl ⟨rfl, e1, rfl, rfl⟩, k⟩
  · obtain ⟨F, rfl⟩ : ∃ G, F = G + 2 := ⟨F - 2, by omega⟩
    refine (spoil_spec F s n at' turn).mono ?_
    intro v h' q
    unfold spoilR
    cases hlk : lk n fl 0 with
    | none =>
      rw [hlk] at q
      obtain ⟨rfl, k⟩ := q
      exact ⟨rfl, .inr ⟨b, m, rfl, e2, s.keeps0 k, rfl⟩, k.kept (by simp)⟩
    | some ip =>
      obtain ⟨i, p⟩ := ip
      rw [hlk] at q
      simp only at q ⊢
      by_cases c1 : at' < 0 ∨ turn < 1 ∨ 255 < turn ∨ slen p.1.b = 0
      · rw [if_pos c1] at q ⊢
        obtain ⟨rfl, k⟩ := q
        exact ⟨rfl, .inr ⟨b, _, rfl, e2, s.keeps0 k, rfl⟩, k.kept (by simp)⟩
      · rw [if_neg c1] at q ⊢
        by_cases c2 : p.2 = true
        · rw [if_pos c2] at q ⊢
          obtain ⟨rfl, k⟩ := q
          exact ⟨rfl, .inr ⟨b, _, rfl, e2, s.keeps0 k, rfl⟩, k.kept (by simp)⟩
        · rw [if_neg c2] at q ⊢
          obtain ⟨rfl, k, l'⟩ := q
          exact ⟨rfl, .inr ⟨b, m, rfl, e2, l', rfl⟩, k.kept (by intro c hc; simp [hc])⟩

end Go.Proofs.Ytmenfnapbggglaa

/- Send and Numbers of the program's line, there or nil. -/
set_option linter.unusedSimpArgs false
set_option linter.unusedVariables false
namespace Go.Proofs.Ytmenfnapbggglaa
open Go.Ev

theorem put_nil {F : Nat} (hF : 1 ≤ F) (p : Parcel) (h : H) : Ans (cf F 34 [.pointer none, pval p] h) fun v h' => v = .int .i64 (-1) ∧ Kept h h' [] := by
  obtain ⟨F, rfl⟩ : ∃ G, F = G + 1 := ⟨F - 1, by omega⟩
  rw [cf_step (a := a34) rfl rfl (by simp [a34])]
  simp (disch := first | omega | (simp only [newRow_size, Array.size_setIfInBounds, Array.size_push]; done) | (simp only [newRow_size, Array.size_setIfInBounds, Array.size_push]; omega)) [a34, r34_0, r34_1, nilEq, pval, pcells, Msg.cells, r34_2, eqT, eqF, neT, neF, ltT, ltF, leT, leF, nltT, nltF, nleT, nleF, nneT, nneF, List.getElem?_cons_zero, List.getElem?_cons_succ]
  refine Ans.of ⟨rfl, ?_⟩
  first | exact Kept.refl _ _ | exact rowKept _ _ _ _

theorem sendR_nil : ∀ (l : List Msg) (fl : Flight) (last : Int), sendR true fl last l = (fl, last, List.replicate l.length (-1))
  | [], fl, last => rfl
  | m :: r, fl, last => by
    have hp : putR true fl last (m, false) = (fl, last, -1) := by unfold putR; rw [if_pos (.inl rfl)]
    simp only [sendR, hp, sendR_nil r, List.length_cons, List.replicate_succ]

theorem sendR_eq : ∀ (l : List Msg) (fl : Flight) (last : Int), sendR false fl last l = sendM fl last l
  | [], fl, last => rfl
  | m :: r, fl, last => by
    unfold sendM
    simp only [sendR]
    by_cases h : 256 ≤ fl.length
    · have hp : putR false fl last (m, false) = (fl, last, -1) := by unfold putR; rw [if_pos (.inr h)]
      rw [hp, if_pos h, sendR_eq r]
    · have hp : putR false fl last (m, false) = (fl ++ [(last + 1, (m, false))], last + 1, last + 1) := by unfold putR; rw [if_neg (by simp; omega)]
      rw [hp, if_neg h, sendR_eq r]

theorem MsgsAt.lenV {h : H} {v : Value} {l : List Msg} (m : MsgsAt h v l) : Ev.lenV v = some (.int .i64 l.length) := by
  rcases m with ⟨rfl, rfl⟩ | ⟨b, o, c, cs, es, lv, an, rfl, _⟩ <;> simp [Ev.lenV]

theorem send_nil {F : Nat} (hF : 1000 ≤ F) {h : H} {v : Value} {l : List Msg} (mv : MsgsAt h v l) (hl : l.length ≤ 900) :
    Ans (cf F 16 [.pointer none, v] h) fun u h' => SlR (fun c => h.size ≤ c) 1 IntC h' u (List.replicate l.length (-1)) ∧ Kept h h' [] := by
  generalize hQ : (fun (u : Value) (h' : H) => SlR (fun c => h.size ≤ c) 1 IntC h' u (List.replicate l.length (-1)) ∧ Kept h h' []) = Q
  obtain ⟨F, rfl⟩ : ∃ G, F = G + 1 := ⟨F - 1, by omega⟩
  have hln := mv.lenV
  rw [cf_step (a := a16) rfl rfl (by simp [a16])]
  simp (disch := first | omega | (simp only [newRow_size, Array.size_setIfInBounds, Array.size_push]; done) | (simp only [newRow_size, Array.size_setIfInBounds, Array.size_push]; omega)) [a16, r16_0, r16_1, r16_2, hln]
  refine loop_rule (fun m e g' => ∃ (i : Nat) (u : Value), m = l.length - i ∧ i ≤ l.length ∧ e = [(0, .pointer none), (5, u), (8, v), (9, .int .i64 l.length), (10, .int .i64 i)] ∧ (∀ b, b < h.size → hget g' b = hget h b) ∧ h.size ≤ g'.size ∧ Bld (fun c => h.size ≤ c) 1 IntC g' u (List.replicate i (-1))) ?_ _ l.length _ _ (by omega) ⟨0, .slice none 0 0, by omega, by omega, rfl, fun _ _ => rfl, by omega, Bld.nil _ _ _ _⟩
  rintro m e g again ⟨i, u, rfl, hi, rfl, kg, zg, bu⟩ ih
  have hw : IntKind.i64.wrap ((i : Int) + 1) = ((i + 1 : Nat) : Int) := by rw [wrap_id (by omega) (by omega)]; rfl
  by_cases hlt : i < l.length
  · have mg : MsgsAt g v l := mv.keeps ⟨zg, fun b hb _ => kg b hb⟩
    obtain ⟨b, o, c, cs, es, lv, an, rfl, hg, hle, hr⟩ := mg.read hlt
    have hgs := lt_of_get hg
    have hlt' : (i : Int) < (l.length : Int) := by omega
    simp (disch := first | omega | (simp only [newRow_size, Array.size_setIfInBounds, Array.size_push]; done) | (simp only [newRow_size, Array.size_setIfInBounds, Array.size_push]; omega)) [l16_7, r16_3, hlt', eqT, eqF, neT, neF, ltT, ltF, leT, leF, nltT, nltF, nleT, nleF, nneT, nneF, List.getElem?_cons_zero, List.getElem?_cons_succ, r16_4, hg, hr, r16_5]
    have kA := rowKept g [.int .i64 (l[i]).fr, .int .i64 (l[i]).to, .string (l[i]).b] 0 []
    refine Ans.next (put_nil (F := F) (by omega) (l[i], false) _) ?_
    rintro w h2 ⟨rfl, k2⟩
    have y2 := k2.1
    simp (disch := first | omega | (simp only [newRow_size, Array.size_setIfInBounds, Array.size_push]; done) | (simp only [newRow_size, Array.size_setIfInBounds, Array.size_push]; omega)) [srcOf]
    have kN := rowKept h2 [.int .i64 (-1)] 1 []
    have kB := (kA.trans k2).trans kN
    have bN := bu.kept kB (by simp) (fun cs t _ q => q)
    have yB := kB.1
    refine Ans.next (bN.push (x := -1) (bytes := 8) int_any rfl (by simp; omega) (by simp at yB ⊢; omega) rfl) ?_
    rintro u' h5 ⟨b5, z5, g5, _⟩
    simp only [newRow_size] at z5 yB
    simp (disch := first | omega | (simp only [newRow_size, Array.size_setIfInBounds, Array.size_push]; done) | (simp only [newRow_size, Array.size_setIfInBounds, Array.size_push]; omega)) [r16_6, hw]
    refine ih (l.length - (i + 1)) _ _ (by omega) ⟨i + 1, u', rfl, by omega, rfl, fun b hb => (g5 b (by omega)).trans ((kB.get (by omega) (by simp)).trans (kg b hb)), by omega, ?_⟩
    rw [List.replicate_succ']
    exact b5
  · have hii : i = l.length := by omega
    subst hii
    simp (disch := first | omega | (simp only [newRow_size, Array.size_setIfInBounds, Array.size_push]; done) | (simp only [newRow_size, Array.size_setIfInBounds, Array.size_push]; omega)) [l16_7, r16_3, eqT, eqF, neT, neF, ltT, ltF, leT, leF, nltT, nltF, nleT, nleF, nneT, nneF, List.getElem?_cons_zero, List.getElem?_cons_succ, r16_8]
    subst hQ
    exact Ans.of ⟨bu.sl, ⟨zg, fun c hc _ => kg c hc⟩⟩

theorem OwnRow.slI {h : H} {v : Value} {ns : List Int} {B n : Nat} (o : OwnRow h v 1 n (ints ns) B) (hn : ns.length = n) : SlR (fun c => B ≤ c) 1 IntC h v ns := by
  subst hn
  rcases o with ⟨h1, h2, h3⟩ | ⟨b, h1, h2, ⟨an, h3, h4⟩, h5⟩
  · exact .inl ⟨.inl h3, List.eq_nil_of_length_eq_zero h1⟩
  · refine .inr ⟨b, 0, ns.length, ints ns, h2, Nat.le_refl _, h1, cel_of h3, fun i x hx => ?_⟩
    have hil := (List.getElem?_eq_some_iff.1 hx).1
    refine ⟨by simp [ints]; omega, ?_⟩
    show ((ints ns).drop (0 + i * 1)).take 1 = [.int .i64 x]
    rw [Nat.zero_add, Nat.mul_one, List.take_one, List.head?_drop]
    simp [ints, hx]

theorem LS.send {F : Nat} (hF : 1000 ≤ F) {h : H} {lv : Value} {fl : Flight} {last : Int} {nn : Bool} {W : List Nat} (s : LS h lv fl last nn W) (w : Fl fl last) {v : Value} {l : List Msg} (hl : l.length ≤ 900) (mv : MsgsAt h v l) (hlast : last + l.length ≤ 1000000000)
    (hfar : ∀ x o n c, v = .slice (some ⟨x, o, none⟩) n c → x ∉ W) :
    Ans (cf F 16 [lv, v] h) fun u h' => SlR (fun c => h.size ≤ c) 1 IntC h' u (sendR nn fl last l).2.2 ∧ ∃ W', LS h' lv (sendR nn fl last l).1 (sendR nn fl last l).2.1 nn W' ∧ Moves h h' W W' := by
  rcases s with ⟨rfl, rfl, rfl, rfl⟩ | ⟨b, m, rfl, rfl, s, rfl⟩
  · rw [sendR_nil]
    refine (send_nil hF mv hl).mono ?_
    rintro u h' ⟨s', k⟩
    exact ⟨s', [], .inl ⟨rfl, rfl, rfl, rfl⟩, k, by simp⟩
  · obtain ⟨F, rfl⟩ : ∃ G, F = G + 2 := ⟨F - 2, by omega⟩
    rw [sendR_eq]
    have hns := (sendM_fl l w).2.2
    have hsz := lt_of_get s.line
    refine (send_spec F (by omega) (by omega) mv s w hlast ?_).mono ?_
    · intro x o n c e q
      refine hfar x o n c e ?_
      rcases q with rfl | q
      · simp
      · simp [q]
    · rintro u h' ⟨o, k, m', l', lat⟩
      refine ⟨OwnRow.slI o hns, b :: m'.toList, .inr ⟨b, m', rfl, rfl, l', rfl⟩, k.kept (by rintro c (rfl | q); simp; simp [q]), ?_⟩
      intro c hc
      rcases List.mem_cons.1 hc with rfl | hc
      · exact .inl (by simp)
      · rw [Option.mem_toList] at hc
        rcases lat with rfl | ⟨_, x, e, hx⟩
        · exact .inl (by simp [hc])
        · rw [e] at hc; cases hc; exact .inr hx

theorem intKeys_ents : ∀ fl : Flight, intKeys (ents fl) = some (fl.map (·.1))
  | [] => rfl
  | p :: r => by
    have := intKeys_ents r
    unfold ents at this ⊢
    simp only [List.map_cons, intKeys, this]
    rfl

theorem LS.numbers {F : Nat} (hF : 1 ≤ F) {h : H} {lv : Value} {fl : Flight} {last : Int} {nn : Bool} {W : List Nat} (s : LS h lv fl last nn W) (w : Fl fl last) (hl : fl.length ≤ 256) (hlast : last ≤ 1000000000) :
    Ans (cf F 26 [lv] h) fun u h' => SlR (fun c => h.size ≤ c) 1 IntC h' u (fl.map (·.1)) ∧ Kept h h' [] := by
  obtain ⟨F, rfl⟩ : ∃ G, F = G + 1 := ⟨F - 1, by omega⟩
  rw [cf_X (x := keysX) rfl]
  rcases s with ⟨rfl, _, rfl, rfl⟩ | ⟨b, m, rfl, _, s, rfl⟩
  · exact Ans.of ⟨.inl ⟨.inl rfl, rfl⟩, Kept.refl _ _⟩
  · have hb : h[b]? = some (.cells [.map m, .int .i64 last] 0 true []) := s.line
    cases m with
    | none =>
      have := s.no rfl
      subst this
      have hr : rd h b 0 1 = some [.map none] := by simp only [rd, hb]; rfl
      refine ⟨_, _, by simp only [keysX, hr], .inl ⟨.inl rfl, rfl⟩, Kept.refl _ _⟩
    | some x =>
      have hx : h[x]? = some (.map (ents fl) true) := (s.yes x rfl).2
      have hr : rd h b 0 1 = some [.map (some x)] := by simp only [rd, hb]; rfl
      have hpw : (fl.map (·.1)).Pairwise (· < ·) := by rw [List.pairwise_map]; exact w.rise
      have hnd : (fl.map (·.1)).Nodup := hpw.imp fun h => Int.ne_of_lt h
      have hms : ((fl.map (·.1)).mergeSort fun x y => decide (x ≤ y)) = fl.map (·.1) := List.mergeSort_of_pairwise (hpw.imp fun h => by simpa using Int.le_of_lt h)
      have hbd : ∀ n ∈ fl.map (·.1), 0 ≤ n ∧ n ≤ 1000000000 := by
        intro n hn
        obtain ⟨p, hp, rfl⟩ := List.mem_map.1 hn
        have := w.bnd p hp
        omega
      have hk := intKeys_ents fl
      by_cases he : fl = []
      · subst he
        refine ⟨_, _, by simp only [keysX, hr, hx, hk, if_pos (And.intro hnd (And.intro (show ([] : List Int).length ≤ 1000000 by simp) hbd))]; rfl, .inl ⟨.inl rfl, rfl⟩, Kept.refl _ _⟩
      · have hne : fl.map (·.1) ≠ [] := by simpa using he
        have hlen : (fl.map (·.1)).length ≤ 1000000 := by simp; omega
        refine ⟨_, _, by simp only [keysX, hr, hx, hk, if_pos (And.intro hnd (And.intro hlen hbd)), if_neg hne, hms]; rfl, ?_, rowKept _ _ _ _⟩
        refine OwnRow.slI (n := (fl.map (·.1)).length) (.inr ⟨h.size, Nat.le_refl _, rfl, ⟨[], by simp [ints], by simp⟩, by simp [ints]⟩) rfl

end Go.Proofs.Ytmenfnapbggglaa

/- What stays true of a line behind every step. -/
set_option linter.unusedSimpArgs false
set_option linter.unusedVariables false
namespace Go.Proofs.Ytmenfnapbggglaa
open Go.Ev

structure Gd (fl : Flight) (last : Int) : Prop where
  w : Fl fl last
  len : fl.length ≤ 256
  sl : ∀ q ∈ fl, slen q.2.1.b ≤ 600

theorem Gd.nil : Gd [] 0 := ⟨⟨.nil, by simp, by simp⟩, by simp, by simp⟩

theorem Gd.put {fl : Flight} {last : Int} (g : Gd fl last) (nn : Bool) {p : Parcel} (hp : slen p.1.b ≤ 600) : Gd (putR nn fl last p).1 (putR nn fl last p).2.1 := by
  refine ⟨?_, putR_len nn fl last p g.len, ?_⟩
  · unfold putR
    split
    · exact g.w
    · exact g.w.put p
  · unfold putR
    split
    · exact g.sl
    · intro q hq
      rcases List.mem_append.1 hq with hq | hq
      · exact g.sl q hq
      · simp at hq; subst hq; exact hp

theorem Gd.send (nn : Bool) : ∀ (l : List Msg) {fl : Flight} {last : Int}, Gd fl last → (∀ m ∈ l, slen m.b ≤ 600) → Gd (sendR nn fl last l).1 (sendR nn fl last l).2.1
  | [], fl, last, g, _ => g
  | m :: r, fl, last, g, h => by
    simp only [sendR]
    exact Gd.send nn r (g.put nn (p := (m, false)) (h m (by simp))) (fun x hx => h x (by simp [hx]))

theorem Gd.take {fl : Flight} {last : Int} (g : Gd fl last) (n : Int) : Gd (takeR n fl) last := by
  unfold takeR
  split
  · unfold notN
    exact ⟨⟨g.w.rise.filter _, fun p hp => g.w.bnd p ((List.mem_filter.1 hp).1), g.w.pos⟩, Nat.le_trans (List.length_filter_le _ _) g.len, fun q hq => g.sl q ((List.mem_filter.1 hq).1)⟩
  · exact g

theorem Gd.double {fl : Flight} {last : Int} (g : Gd fl last) (nn : Bool) (n : Int) : Gd (doubleR nn n fl last).1 (doubleR nn n fl last).2.1 ∧ last ≤ (doubleR nn n fl last).2.1 ∧ (doubleR nn n fl last).2.1 ≤ last + 1 := by
  unfold doubleR
  cases hlk : lk n fl 0 with
  | none => exact ⟨g, by simp, by simp; omega⟩
  | some ip =>
    obtain ⟨i, p⟩ := ip
    obtain ⟨_, hp⟩ := lk_get hlk
    have hs := g.sl _ (List.mem_of_getElem? hp)
    have hl := putR_last nn fl last p
    simp only
    split
    · exact ⟨g, by simp, by simp; omega⟩
    · exact ⟨g.put nn hs, hl.1, hl.2⟩

theorem turnB_len (t : ByteArray) (i : Nat) (turn : Int) : slen (turnB t i turn) = slen t := by
  show (turnB t i turn).data.toList.length = t.data.toList.length
  simp [turnB]

theorem set_rise {n : Int} {p p' : Parcel} : ∀ {fl : Flight} {i : Nat}, (fl.Pairwise fun a b => a.1 < b.1) → fl[i]? = some (n, p) → (fl.set i (n, p')).Pairwise fun a b => a.1 < b.1 := by
  intro fl i hp hi
  have e : (fl.set i (n, p')).map (·.1) = fl.map (·.1) := by
    rw [List.map_set]
    apply List.ext_getElem?
    intro j
    by_cases hj : i = j
    · subst hj
      rw [List.getElem?_set_self (by simpa using (List.getElem?_eq_some_iff.1 hi).1), List.getElem?_map, hi]; rfl
    · rw [List.getElem?_set_ne hj]
  have h1 : (fl.map (·.1)).Pairwise (· < ·) := by rw [List.pairwise_map]; exact hp
  rw [← e, List.pairwise_map] at h1
  exact h1

theorem Gd.spoil {fl : Flight} {last : Int} (g : Gd fl last) (n at' turn : Int) : Gd (spoilR n at' turn fl).1 last := by
  unfold spoilR
  cases hlk : lk n fl 0 with
  | none => exact g
  | some ip =>
    obtain ⟨i, p⟩ := ip
    obtain ⟨_, hp⟩ := lk_get hlk
    rw [Nat.sub_zero] at hp
    have hm := List.mem_of_getElem? hp
    have hs := g.sl _ hm
    have hb := g.w.bnd _ hm
    simp only
    split
    · exact g
    split
    · exact g
    · refine ⟨⟨set_rise g.w.rise hp, ?_, g.w.pos⟩, by simpa using g.len, ?_⟩
      · intro q hq
        rcases List.mem_or_eq_of_mem_set hq with hq | rfl
        · exact g.w.bnd q hq
        · exact hb
      · intro q hq
        rcases List.mem_or_eq_of_mem_set hq with hq | rfl
        · exact g.sl q hq
        · show slen (turnB _ _ _) ≤ 600
          rw [turnB_len]; exact hs

theorem cutM_slen (m : Msg) : slen (cutM m).b ≤ 600 := by
  unfold cutM
  split
  · show (m.b.extract 0 600).size ≤ 600
    rw [ByteArray.size_extract]
    omega
  · omega
theorem cut_slen (l : List Msg) : ∀ m ∈ cut l, slen m.b ≤ 600 := by
  intro m hm
  unfold cut at hm
  obtain ⟨x, _, rfl⟩ := List.mem_map.1 hm
  exact cutM_slen x
theorem cut_le (l : List Msg) : (cut l).length ≤ 300 := by rw [cut_length]; omega

/-- A step of a script. -/
structure Stp where
  kind : Int
  on : Int
  msgs : List Msg
  n : Int
  at' : Int
  turn : Int

/-- What a step makes of a line. -/
def stepL (nn : Bool) (fl : Flight) (last : Int) (x : Stp) : Flight × Int :=
  if x.kind = 1 then ((sendR nn fl last (cut x.msgs)).1, (sendR nn fl last (cut x.msgs)).2.1)
  else if x.kind = 2 then (takeR x.n fl, last)
  else if x.kind = 3 then ((doubleR nn x.n fl last).1, (doubleR nn x.n fl last).2.1)
  else if x.kind = 4 then ((spoilR x.n x.at' x.turn fl).1, last)
  else (fl, last)

theorem Gd.step {fl : Flight} {last : Int} (g : Gd fl last) (nn : Bool) (x : Stp) : Gd (stepL nn fl last x).1 (stepL nn fl last x).2 ∧ last ≤ (stepL nn fl last x).2 ∧ (stepL nn fl last x).2 ≤ last + 300 := by
  unfold stepL
  split
  · have h1 := sendR_last nn (cut x.msgs) fl last
    have h2 := cut_le x.msgs
    exact ⟨g.send nn _ (cut_slen _), h1.1, by simp only; omega⟩
  split
  · exact ⟨g.take _, by simp, by simp; omega⟩
  split
  · obtain ⟨h1, h2, h3⟩ := g.double nn x.n
    exact ⟨h1, h2, by simp only; omega⟩
  split
  · exact ⟨g.spoil _ _ _, by simp, by simp; omega⟩
  · exact ⟨g, by simp, by simp; omega⟩

theorem step_nil (fl : Flight) (last : Int) (x : Stp) (h : fl = []) : (stepL true fl last x).1 = [] := by
  subst h
  unfold stepL
  split
  · rw [sendR_nil]
  split
  · rfl
  split
  · rfl
  split
  · rfl
  · rfl

end Go.Proofs.Ytmenfnapbggglaa

/- plays: its parts; the loop over what was handed in. -/
set_option linter.unusedSimpArgs false
set_option linter.unusedVariables false
namespace Go.Proofs.Ytmenfnapbggglaa
open Go.Ev

def lpC : ACode := (.seq (.region r25_11 [8, 10, 11, 12, 13, 14, 15, 16, 17]) (.block 1 (.loop [8, 10, 11, 12, 13, 14, 15, 16, 17] l25_16)))
def sendC : ACode := (.seq (.region r25_3 [0, 3, 5, 8, 10]) (.seq (.region r25_4 [0, 3, 8, 10, 11, 12]) (.seq (.region r25_5 [0, 3, 8, 10, 11, 12, 13]) (.seq (.region r25_6 [0, 3, 8, 10, 11, 12, 13, 14]) (.seq (.region r25_7 [0, 3, 8, 10, 11, 12, 13, 14]) (.seq (.region r25_8 [0, 8, 10, 11, 12, 13, 14]) (.seq (.region r25_9 [8, 10, 11, 12, 13, 14, 15]) (.seq (.region r25_10 [8, 10, 11, 12, 13, 14, 15, 16]) (.seq lpC (.seq (.regionD d25_17 [(0, [7])] [8, 9]) .ret))))))))))
def takeC : ACode := (.seq (.region r25_19 [0, 6, 8, 18, 19, 20]) (.seq (.region r25_20 [8, 18, 19, 20, 21, 22]) (.seq (.regionD d25_21 [(0, [10]), (6, [12]), (7, [12])] [8, 9]) .ret)))
def dblC : ACode := (.seq (.region r25_23 [0, 6, 8, 23, 24, 25]) (.seq (.region r25_24 [8, 23, 24, 25, 26, 27]) (.seq (.regionD d25_25 [(0, [10])] [8, 9]) .ret)))
def splC : ACode := (.seq (.region r25_27 [0, 6, 8, 28, 29]) (.seq (.region r25_28 [8, 28, 29, 30]) (.seq (.regionD d25_29 [(0, [5])] [8, 9]) .ret)))
def lookC : ACode := (.seq (.region r25_31 [0, 5, 6, 8, 31, 32]) (.seq (.region r25_32 [5, 8, 31, 32, 33, 34]) (.seq (.regionD d25_33 [(0, [10]), (6, [12]), (7, [12])] [8, 9]) .ret)))
def numC : ACode := (.seq (.region r25_35 [5, 8, 35]) (.seq (.regionD d25_36 [(0, [4, 5])] [8, 9]) .ret))
theorem a25_cut : a25.body = (.seq (.region r25_0 [0, 3, 5, 6, 8]) (.seq (.seq (.region r25_1 [0, 3, 5, 6, 8, 37]) (.block 0 (.seq (.region r25_2 [0, 3, 5, 6, 8, 37, 38]) (.cond (.tmp 38) sendC (.seq (.region r25_18 [0, 5, 6, 8, 37, 115]) (.cond (.tmp 115) takeC (.seq (.region r25_22 [0, 5, 6, 8, 37, 142]) (.cond (.tmp 142) dblC (.seq (.region r25_26 [0, 5, 6, 8, 37, 169]) (.cond (.tmp 169) splC (.seq (.region r25_30 [0, 5, 6, 8, 37, 195]) (.cond (.tmp 195) lookC (.seq (.region r25_34 [0, 5, 8, 221]) (.cond (.tmp 221) numC .skip)))))))))))))) (.seq (.region r25_37 [8, 9]) .ret))) := rfl

def spoilt : List Value := [.int .i64 99, .int .i64 0, .string str115_112_111_105_108_116]

theorem eqM (m : Msg) : cellsEq [.int, .int, .str] [.int .i64 m.fr, .int .i64 m.to, .string m.b] [.int .i64 m.fr, .int .i64 m.to, .string m.b] = some true := by
  have := ba_self m.b
  simp [cellsEq, keyEq, this]

set_option maxHeartbeats 1000000 in
theorem lpC_spec {F : Nat} (hF : 1000 ≤ F) {ok : Nat → Prop} {g : H} {vm room v8 v11 v12 v15 : Value} {ms : List Msg} {N : Nat} {own : List Nat} {cs : List Value}
    (sm : SlR ok 3 MsgC g vm ms) (hms : ms.length ≤ 300) (lo : LayO 3 g room N own cs) (hN : ms.length < N) (hnd : own.Nodup) (hlt : ∀ c ∈ own, c < g.size) (hok : ∀ c ∈ own, ¬ ok c)
    (hc : ∀ (i : Nat) (m : Msg), ms[i]? = some m → (cs.drop (i * 3)).take 3 = m.cells)
    {kn kr : K} {ke : Nat → K} {Q : Value → H → Prop}
    (hk : ∀ g2 own2 cs2 (e : Env), LayO 3 g2 room N own2 cs2 → own2.Nodup → (∀ c ∈ own2, c < g2.size) → Moves g g2 own own2 →
      Ans (kn ((8, v8) :: (10, vm) :: (11, v11) :: (12, v12) :: (13, .int .i64 ms.length) :: (14, room) :: (15, v15) :: (16, .bool true) :: e) g2 []) Q) :
    Ans (evC F (cf F) lpC kn ke kr [(8, v8), (10, vm), (11, v11), (12, v12), (13, .int .i64 ms.length), (14, room), (15, v15), (16, .bool true)] g []) Q := by
  simp (disch := first | omega | (simp only [newRow_size, Array.size_setIfInBounds, Array.size_push]; done) | (simp only [newRow_size, Array.size_setIfInBounds, Array.size_push]; omega)) [lpC, r25_11]
  refine loop_rule (fun mm e g' => ∃ (k : Nat) (own' : List Nat) (cs' : List Value), mm = ms.length - k ∧ k ≤ ms.length ∧ e = [(8, v8), (10, vm), (11, v11), (12, v12), (13, .int .i64 ms.length), (14, room), (15, v15), (16, .bool true), (17, .int .i64 k)] ∧ LayO 3 g' room N own' cs' ∧ own'.Nodup ∧ (∀ c ∈ own', c < g'.size) ∧ Moves g g' own own' ∧ cs'.drop (k * 3) = cs.drop (k * 3)) ?_ _ ms.length _ _ (by omega) ⟨0, own, cs, by omega, by omega, rfl, lo, hnd, hlt, Moves.refl _ _, rfl⟩
  rintro mm e g' again ⟨k, own', cs', rfl, hkl, rfl, lo', hnd', hlt', mv, hdr⟩ ih
  have hw : IntKind.i64.wrap ((k : Int) + 1) = ((k + 1 : Nat) : Int) := by rw [wrap_id (by omega) (by omega)]; rfl
  by_cases hlk : k < ms.length
  · obtain ⟨m, hm⟩ : ∃ m, ms[k]? = some m := ⟨_, List.getElem?_eq_getElem hlk⟩
    have hcm := hc k m hm
    rw [← hdr] at hcm
    have hcm' : (cs'.drop (k * 3)).take 3 = [.int .i64 m.fr, .int .i64 m.to, .string m.b] := hcm
    have smg : SlR ok 3 MsgC g' vm ms := SlM.imp sm (fun _ _ q => q) (keep_of mv.1.c hok)
    obtain ⟨bm, om, cm, csm, es, lv, an, rfl, hkm, hgm, hlem, hpm⟩ := smg.at' hm
    have hpm' : (csm.drop (om + k * 3)).take 3 = [.int .i64 m.fr, .int .i64 m.to, .string m.b] := hpm
    obtain ⟨b, anb, c, rfl, rfl, hgb, hleb, lo2, k2⟩ := lo'.set (i := k) (new := spoilt) hnd' (by omega) rfl rfl
    have hgms := lt_of_get hgm
    have hgbs := lt_of_get hgb
    have hkN : k < N := by omega
    have hkc : (k : Int) < (ms.length : Int) := by omega
    have heq := ba_self m.b
    have hkN2 : (k : Int) < (N : Int) := by omega
    have hleb' : k * 3 + 3 ≤ cs'.length := hleb
    simp (disch := first | omega | (simp only [newRow_size, Array.size_setIfInBounds, Array.size_push]; done) | (simp only [newRow_size, Array.size_setIfInBounds, Array.size_push]; omega)) [l25_16, r25_12, hkc, eqT, eqF, neT, neF, ltT, ltF, leT, leF, nltT, nltF, nleT, nleF, nneT, nneF, List.getElem?_cons_zero, List.getElem?_cons_succ, d25_13, dk_go, chks_nil, chks_cons, chkA_nil, chkA_cons, chk1_no, chk1_yes, chkV_some, hAt_eq, hOf_some, hOf_none, hkN, hkN2, hlk, hgb, hcm', hleb', hgm, hpm', heq, r25_14, r25_15, hw]
    have hnew : cs'.take (k * 3) ++ spoilt ++ cs'.drop (k * 3 + 3) = cs'.take (k * 3) ++ .int .i64 99 :: .int .i64 0 :: .string str115_112_111_105_108_116 :: cs'.drop (k * 3 + 3) := by simp [spoilt]
    have hdn : (cs'.take (k * 3) ++ spoilt ++ cs'.drop (k * 3 + 3)).drop ((k + 1) * 3) = cs.drop ((k + 1) * 3) := by
      rw [List.drop_left' (by simp [spoilt]; omega)]
      have := congrArg (List.drop 3) hdr
      rw [List.drop_drop, List.drop_drop] at this
      rw [Nat.succ_mul]; exact this
    rw [hnew] at lo2 k2 hdn
    refine ih (ms.length - (k + 1)) _ _ (by omega) ⟨k + 1, [b], _, rfl, by omega, rfl, lo2, by simp, ?_, mv.trans ⟨k2, ?_⟩, hdn⟩
    · intro x hx
      simp at hx
      subst hx
      have := k2.1
      omega
    · intro x hx
      simp at hx
      subst hx
      exact .inl (by simp)
  · have hkk : k = ms.length := by omega
    subst hkk
    simp (disch := first | omega | (simp only [newRow_size, Array.size_setIfInBounds, Array.size_push]; done) | (simp only [newRow_size, Array.size_setIfInBounds, Array.size_push]; omega)) [l25_16, r25_12, eqT, eqF, neT, neF, ltT, ltF, leT, leF, nltT, nltF, nleT, nleF, nneT, nneF, List.getElem?_cons_zero, List.getElem?_cons_succ]
    exact hk _ _ _ _ lo' hnd' hlt' mv

end Go.Proofs.Ytmenfnapbggglaa

/- The state of a script: the program's line, the document's, the desk; plays: Send. -/
set_option linter.unusedSimpArgs false
set_option linter.unusedVariables false
namespace Go.Ev
/-- The desk. -/
def DeskS (h : H) (d : Nat) (D : List Nat) : Prop := ∃ v n own cs, hget h d = some (.cells [v] 0 true []) ∧ LayO 3 h v n own cs ∧ own.Nodup ∧ d ∉ own ∧ (∀ c ∈ own, c < h.size) ∧ n ≤ 1000 ∧ D = d :: own

theorem DeskS.kept {h h' : H} {d : Nat} {D L : List Nat} (s : DeskS h d D) (k : Kept h h' L) (hL : ∀ c ∈ D, c ∉ L) : DeskS h' d D := by
  obtain ⟨v, n, own, cs, e1, e2, e3, e4, e5, e6, rfl⟩ := s
  exact ⟨v, n, own, cs, (k.get (lt_of_get e1) (hL d (by simp))).trans e1, e2.kept k (fun c hc => hL c (by simp [hc])), e3, e4, fun c hc => Nat.lt_of_lt_of_le (e5 c hc) k.1, e6, rfl⟩
theorem DeskS.lt {h : H} {d : Nat} {D : List Nat} (s : DeskS h d D) : ∀ c ∈ D, c < h.size := by
  obtain ⟨v, n, own, cs, e1, e2, e3, e4, e5, e6, rfl⟩ := s
  intro c hc
  rcases List.mem_cons.1 hc with rfl | hc
  · exact lt_of_get e1
  · exact e5 c hc

theorem mcells_read {α : Type} {w : Nat} {R : H → List Value → α → Prop} {ok : Nat → Prop} {h : H} {v : Value} {xs : List α} (f : α → List Value) (hR : ∀ cs x, R h cs x → cs = f x) (hf : ∀ x, (f x).length = w) (s : Bld ok w R h v xs) : srcOf h w v = some (xs.length, (xs.map f).flatten) := by
  rcases s with ⟨rfl, rfl⟩ | ⟨b, cs, an, rfl, hk, hb, hl, hi⟩
  · simp [srcOf]
  · have hb' : h[b]? = some (.cells cs w true an) := hb
    have hcs : cs = (xs.map f).flatten := by
      clear hb hb'
      have h1 : ∀ (i : Nat) x, xs[i]? = some x → (cs.drop (i * w)).take w = f x := fun i x hx => hR _ _ (hi i x hx)
      clear hi
      induction xs generalizing cs with
      | nil => simp at hl; simp [hl]
      | cons x xs ih =>
        have h0 := h1 0 x rfl
        rw [Nat.zero_mul, List.drop_zero] at h0
        have := ih (cs := cs.drop w) (by rw [List.length_drop, hl, List.length_cons, Nat.succ_mul]; omega) (fun i y hy => by
          have := h1 (i + 1) y (by simpa using hy)
          rw [Nat.succ_mul, Nat.add_comm] at this
          rw [List.drop_drop]
          exact this)
        rw [List.map_cons, List.flatten_cons, ← this, ← h0, List.take_append_drop]
    simp only [srcOf]
    split
    · rename_i h0
      have : xs = [] := List.eq_nil_of_length_eq_zero h0
      subst this
      simp
    · simp only [rd, hb', Nat.zero_add, hl, Nat.le_refl, if_true, List.drop_zero, Option.map_some]
      rw [List.take_of_length_le (by omega), ← hcs]
end Go.Ev
namespace Go.Proofs.Ytmenfnapbggglaa
open Go.Ev

structure PlS (P : Nat → Prop) (h : H) (lv : Value) (fl : Flight) (last : Int) (nn : Bool) (W : List Nat) (cs : List Value) (d : Nat) (D : List Nat) : Prop where
  ls : LS h lv fl last nn W
  rf : RefL P h cs fl last nn
  dk : DeskS h d D
  pd : ∀ c ∈ D, ¬ P c
  wd : ∀ c ∈ D, c ∉ W
  pw : ∀ c ∈ W, ¬ P c
  plt : ∀ c, P c → c < h.size

theorem PlS.kept {P : Nat → Prop} {h h' : H} {lv : Value} {fl : Flight} {last : Int} {nn : Bool} {W : List Nat} {cs : List Value} {d : Nat} {D L : List Nat} (s : PlS P h lv fl last nn W cs d D) (k : Kept h h' L) (hL : ∀ c ∈ L, c ∉ W ∧ c ∉ D ∧ ¬ P c) : PlS P h' lv fl last nn W cs d D :=
  ⟨s.ls.kept k (fun c hc q => (hL c q).1 hc), s.rf.imp (fun _ _ q => q) (keep_of k.c (fun c hc => (hL c hc).2.2)), s.dk.kept k (fun c hc hc' => (hL c hc').2.1 hc), s.pd, s.wd, s.pw, fun c hc => Nat.lt_of_lt_of_le (s.plt c hc) k.1⟩

/-- What a step leaves. -/
def PlDone (P : Nat → Prop) (g : H) (lv : Value) (fl' : Flight) (last' : Int) (nn : Bool) (W : List Nat) (d : Nat) (D : List Nat) (rb : Nat) (cs' : List Value) (g' : H) : Prop :=
  ∃ W' D' P', hget g' rb = some (.cells cs' 0 true []) ∧ PlS P' g' lv fl' last' nn W' cs' d D' ∧ Kept g g' (rb :: (W ++ D)) ∧ (∀ c ∈ W', c ∈ W ∨ g.size ≤ c) ∧ (∀ c ∈ D', c ∈ D ∨ g.size ≤ c) ∧ (∀ c, P' c → P c ∨ g.size ≤ c)

theorem PlDone.of {P P' : Nat → Prop} {g g5 : H} {lv : Value} {fl' : Flight} {last' : Int} {nn : Bool} {W W5 D D5 cs' : List _} {d rb : Nat} (pl : PlS P' g5 lv fl' last' nn W5 cs' d D5) (k5 : Kept g g5 (W ++ D)) (hW : ∀ c ∈ W5, c ∈ W ∨ g.size ≤ c) (hD : ∀ c ∈ D5, c ∈ D ∨ g.size ≤ c) (hP : ∀ c, P' c → P c ∨ g.size ≤ c) (hrbs : rb < g.size) (nrb : ¬ P rb ∧ rb ∉ W ∧ rb ∉ D) : PlDone P g lv fl' last' nn W d D rb cs' (g5.setIfInBounds rb (.cells cs' 0 true [])) := by
  have hrb5 : rb < g5.size := Nat.lt_of_lt_of_le hrbs k5.1
  have k : Kept g5 (g5.setIfInBounds rb (.cells cs' 0 true [])) [rb] := ⟨by simp, fun c hc hn => set_other (fun e => hn (by simp [e]))⟩
  refine ⟨W5, D5, P', by simp [hrb5], pl.kept k ?_, ?_, hW, hD, hP⟩
  · intro c hc
    simp at hc
    subst hc
    refine ⟨fun q => ?_, fun q => ?_, fun q => ?_⟩
    · rcases hW _ q with r | r
      · exact nrb.2.1 r
      · omega
    · rcases hD _ q with r | r
      · exact nrb.2.2 r
      · omega
    · rcases hP _ q with r | r
      · exact nrb.1 r
      · omega
  · exact (k5.weak (fun c q => List.mem_cons_of_mem _ q)).trans (k.weak (by simp))

theorem mcells_one : ∀ ms : List Msg, ((ms.map Msg.cells).flatten).all oneCell = true
  | [] => rfl
  | m :: r => by
    have := mcells_one r
    simp only [List.map_cons, List.flatten_cons, List.all_append, this, Bool.and_true]
    rfl
theorem mcells_flat (ms : List Msg) : mcells ms = (ms.map Msg.cells).flatten := by
  unfold mcells
  rw [List.flatMap_def]

theorem mcells_at {ms : List Msg} {i : Nat} {m : Msg} (hm : ms[i]? = some m) (r : List Value) : ((mcells ms ++ r).drop (i * 3)).take 3 = m.cells := by
  induction ms generalizing i with
  | nil => simp at hm
  | cons a ms ih =>
    have e : mcells (a :: ms) ++ r = a.cells ++ (mcells ms ++ r) := by simp [mcells]
    cases i with
    | zero =>
      simp at hm
      subst hm
      rw [e]
      simp [Msg.cells]
    | succ i =>
      rw [e, Nat.succ_mul, Nat.add_comm, ← List.drop_drop, List.drop_left' (show a.cells.length = 3 from rfl)]
      exact ih (by simpa using hm)

end Go.Proofs.Ytmenfnapbggglaa

/- plays: Send. -/
set_option linter.unusedSimpArgs false
set_option linter.unusedVariables false
namespace Go.Ev
theorem LayO.cut0 {w : Nat} {h : H} {v : Value} {n : Nat} {own : List Nat} {cs : List Value} (s : LayO w h v n own cs) : ∃ v', slcV w v none (some (.int .i64 0)) = some v' ∧ LayO w h v' 0 own cs := by
  rcases s with ⟨rfl, rfl, rfl, rfl⟩ | ⟨b, an, rfl, c, rfl, h1, h2, h3⟩
  · exact ⟨_, by simp [slcV, optInt], .inl ⟨rfl, rfl, rfl, rfl⟩⟩
  · exact ⟨_, by simp [slcV, optInt], .inr ⟨b, an, rfl, c, rfl, h1, h2, by omega⟩⟩
theorem LayO.row {w : Nat} {h : H} {v : Value} {n : Nat} {own : List Nat} {cs : List Value} (s : LayO w h v n own cs) (hn : 0 < n) : ∃ b an c, own = b :: an ∧ v = .slice (some ⟨b, 0, none⟩) n c ∧ hget h b = some (.cells cs w true an) ∧ cs.length = c * w ∧ n ≤ c := by
  rcases s with ⟨rfl, rfl, rfl, rfl⟩ | ⟨b, an, rfl, c, rfl, h1, h2, h3⟩
  · omega
  · exact ⟨b, an, c, rfl, rfl, h1, h2, h3⟩
end Go.Ev
namespace Go.Proofs.Ytmenfnapbggglaa
open Go.Ev

theorem sameCell_int (k : IntKind) (n : Int) : sameCell (.int k n) (.int k n) = true := by simp [sameCell]
theorem sameCell_bool (b : Bool) : sameCell (.bool b) (.bool b) = true := by simp [sameCell]
def sentinels : List Value := [.int .i64 777, .int .i64 0, .string ⟨#[]⟩, .int .i64 778, .int .i64 0, .string ⟨#[]⟩]

set_option maxHeartbeats 2000000 in
theorem sendC_spec {F : Nat} (hF : 3000 ≤ F) {P OL : Nat → Prop} {g : H} {lv : Value} {fl : Flight} {last : Int} {nn : Bool} {W : List Nat} {cs : List Value} {d : Nat} {D : List Nat} (s : PlS P g lv fl last nn W cs d D) (gd : Gd fl last) (hlast : last ≤ 50000000) {wb sb rb : Nat} {kd on n at' turn : Int} {vm t38 : Value} {l : List Msg}
    (hwb : hget g wb = some (.cells cs 0 true [])) (hsb : hget g sb = some (.cells [.int .i64 kd, .int .i64 on, vm, .int .i64 n, .int .i64 at', .int .i64 turn] 0 true [])) (hrb : hget g rb = some (.cells [.slice none 0 0, .int .i64 0, .bool false] 0 true [])) (nrb : ¬ P rb ∧ rb ∉ W ∧ rb ∉ D)
    (sl : SlR OL 3 MsgC g vm l)
    {kn kr : K} {ke : Nat → K} {Q : Value → H → Prop}
    (hk : ∀ g' cs', PlDone P g lv (sendR nn fl last (cut l)).1 (sendR nn fl last (cut l)).2.1 nn W d D rb cs' g' → Ans (kr [(8, .pointer (some ⟨rb, 0, none⟩)), (9, .bool true)] g' []) Q) :
    Ans (evC F (cf F) sendC kn ke kr [(0, lv), (3, .pointer (some ⟨d, 0, none⟩)), (5, .pointer (some ⟨wb, 0, none⟩)), (6, .pointer (some ⟨sb, 0, none⟩)), (8, .pointer (some ⟨rb, 0, none⟩)), (37, .int .i64 kd), (38, t38)] g []) Q := by
  have hwbs := lt_of_get hwb
  have hsbs := lt_of_get hsb
  have hrbs := lt_of_get hrb
  have hpos := gd.w.pos
  have hcl := cut_le l
  have om := sl.one
  simp only [oneCell] at om
  simp (disch := first | omega | (simp only [newRow_size, Array.size_setIfInBounds, Array.size_push]; done) | (simp only [newRow_size, Array.size_setIfInBounds, Array.size_push]; omega)) [sendC, r25_3, hsb]
  refine Ans.next (cutS_spec (F := F) (by omega) sl) ?_
  rintro u g1 ⟨bm, k1⟩
  have y1 := k1.1
  obtain ⟨vq, hcs, hvq⟩ := s.rf
  have oq := hvq.one
  simp only [oneCell] at oq
  have hwb1 := (k1.get hwbs (by simp)).trans hwb
  rw [hcs] at hwb1
  simp (disch := first | omega | (simp only [newRow_size, Array.size_setIfInBounds, Array.size_push]; done) | (simp only [newRow_size, Array.size_setIfInBounds, Array.size_push]; omega)) [r25_4, hwb1, oq]
  rw [← hcs]
  have rf1 : RefL (fun c => P c ∨ g.size ≤ c) g1 cs fl last nn := s.rf.imp (fun _ _ q => .inl q) (keep_of k1.c (by simp))
  refine Ans.next (refSend_spec (F := F) (by omega) rf1 (fun c hc => .inr (by omega)) gd.len (by omega) bm.sl hcl) ?_
  rintro v g2 ⟨cs2, u2, rfl, rf2, su2, k2⟩
  have y2 := k2.1
  obtain ⟨v2, hcs2, hv2⟩ := id rf2
  have o2 := hv2.one
  have o2' := su2.one
  simp only [oneCell] at o2 o2'
  rw [hcs2]
  simp (disch := first | omega | (simp only [newRow_size, Array.size_setIfInBounds, Array.size_push]; done) | (simp only [newRow_size, Array.size_setIfInBounds, Array.size_push]; omega)) [o2, o2', eqT, eqF, neT, neF, ltT, ltF, leT, leF, nltT, nltF, nleT, nleF, nneT, nneF, List.getElem?_cons_zero, List.getElem?_cons_succ]
  rw [← hcs2]
  have hvb3 : hget (Ev.newRow g2 cs2 0 []) g2.size = some (.cells cs2 0 true []) := by simp
  have k3 := rowKept g2 cs2 0 []
  have z3 : (Ev.newRow g2 cs2 0 []).size = g2.size + 1 := by simp
  generalize Ev.newRow g2 cs2 0 [] = g3 at hvb3 k3 z3 ⊢
  have hln := bm.sl.len
  have bm3 := (bm.kept k2 (by simp) (fun _ _ _ q => q)).kept k3 (by simp) (fun _ _ _ q => q)
  have hsrc := mcells_read Msg.cells (fun _ _ q => q) (fun _ => rfl) bm3
  have k03 : Kept g g3 [] := (k1.trans k2).trans k3
  obtain ⟨v0, n0, own, csd, e1, e2, e3, e4, e5, e6, rfl⟩ := s.dk
  have hds : d < g.size := lt_of_get e1
  have e1' := (k03.get hds (by simp)).trans e1
  obtain ⟨v0', ec, lo0⟩ := (e2.kept k03 (by simp)).cut0
  have htx := bm.sl.ne_text
  simp only [isText] at htx
  have hM1 := mcells_one (cut l)
  have hM2 : ((cut l).map Msg.cells).flatten.length = (cut l).length * 3 := by rw [← mcells_flat, mcells_length]; omega
  have hM3 := mcells_flat (cut l)
  generalize hM : ((cut l).map Msg.cells).flatten = M at hsrc hM1 hM2 hM3
  clear hM
  simp (disch := first | omega | (simp only [newRow_size, Array.size_setIfInBounds, Array.size_push]; done) | (simp only [newRow_size, Array.size_setIfInBounds, Array.size_push]; omega)) [r25_5, hln, r25_6, e1', ec, hsrc, htx, hM1]
  refine Ans.next (lo0.appN (k := (cut l).length) (bytes := 32) e3 (fun c hc => by have := e5 c hc; have := k03.1; omega) (new := M) hM2 hM1 (by omega)) ?_
  rintro v1 g4 ⟨own1, cs1, lo1, hc1, nd1, lt1, m1⟩
  have y4 := m1.1.1
  rw [Nat.zero_add] at hc1 lo1
  rw [Nat.zero_mul, List.take_zero, List.nil_append] at hc1
  simp (disch := first | omega | (simp only [newRow_size, Array.size_setIfInBounds, Array.size_push]; done) | (simp only [newRow_size, Array.size_setIfInBounds, Array.size_push]; omega)) [r25_7, srcOf]
  have k5 := rowKept g4 sentinels 3 []
  have z5 : (Ev.newRow g4 sentinels 3 []).size = g4.size + 1 := by simp
  have lo5 := lo1.kept k5 (by simp)
  simp only [sentinels] at k5 z5 lo5
  generalize Ev.newRow g4 [.int .i64 777, .int .i64 0, .string ⟨#[]⟩, .int .i64 778, .int .i64 0, .string ⟨#[]⟩] 3 [] = g5 at k5 z5 lo5 ⊢
  refine Ans.next (lo5.appN (k := 2) (bytes := 32) nd1 (fun c hc => by have := lt1 c hc; omega) (new := [.int .i64 777, .int .i64 0, .string ⟨#[]⟩, .int .i64 778, .int .i64 0, .string ⟨#[]⟩]) rfl rfl (by omega)) ?_
  rintro room g6 ⟨own2, csr, lo6, hc6, nd6, lt6, m6⟩
  have y5 := k5.1
  have y6 := m6.1.1
  have y03 := k03.1
  have hown : ∀ c ∈ own1, c ∈ own ∨ g3.size ≤ c := m1.2
  have hown2 : ∀ c ∈ own2, c ∈ own ∨ g3.size ≤ c := by
    intro c hc
    rcases m6.2 c hc with q | q
    · exact hown c q
    · exact .inr (by omega)
  have k36 : Kept g3 g6 own := ⟨by omega, fun c hc hn => (m6.1.get (by omega) (fun q => by rcases hown c q with r | r; exact hn r; omega)).trans ((k5.get (by omega) (by simp)).trans (m1.1.get hc hn))⟩
  have hd6 := (k36.get (by omega) e4).trans e1'
  have hd6s := lt_of_get hd6
  have hdn2 : d ∉ own2 := fun q => by rcases hown2 d q with r | r; exact e4 r; omega
  obtain ⟨b, anb, c, rfl, rfl, hgb, hcl6, hle6⟩ := id (lo6.row (by omega))
  simp (disch := first | omega | (simp only [newRow_size, Array.size_setIfInBounds, Array.size_push]; done) | (simp only [newRow_size, Array.size_setIfInBounds, Array.size_push]; omega)) [r25_8, hd6]
  have k7 : Kept g6 (g6.setIfInBounds d (.cells [.slice (some ⟨b, 0, none⟩) ((cut l).length + 2) c] 0 true [])) [d] := ⟨by simp, fun c hc hn => set_other (fun e => hn (by simp [e]))⟩
  have hd7 : hget (g6.setIfInBounds d (.cells [.slice (some ⟨b, 0, none⟩) ((cut l).length + 2) c] 0 true [])) d = some (.cells [.slice (some ⟨b, 0, none⟩) ((cut l).length + 2) c] 0 true []) := by simp [hd6s]
  have z7 : (g6.setIfInBounds d (.cells [.slice (some ⟨b, 0, none⟩) ((cut l).length + 2) c] 0 true [])).size = g6.size := by simp
  generalize g6.setIfInBounds d (.cells [.slice (some ⟨b, 0, none⟩) ((cut l).length + 2) c] 0 true []) = g7 at k7 hd7 z7 ⊢
  have hn7 : ∀ x ∈ b :: anb, x ∉ [d] := by
    intro x hx q
    simp at q
    subst q
    exact hdn2 hx
  have lo7 := lo6.kept k7 hn7
  have hgb7 := (k7.get (lt_of_get hgb) (hn7 b (by simp))).trans hgb
  have hbW : ∀ x ∈ b :: anb, x ∉ W := by
    intro x hx q
    rcases hown2 x hx with r | r
    · exact s.wd x (by simp [r]) q
    · have := s.ls.lt x q
      omega
  have k07 : Kept g g7 (d :: own) := ⟨by omega, fun x hx hn => by
    simp only [List.mem_cons, not_or] at hn
    exact (k7.get (by omega) (by simp [hn.1])).trans ((k36.get (by omega) hn.2).trans (k03.get hx (by simp)))⟩
  have ls7 := s.ls.kept k07 (fun x hx q => s.wd x q hx)
  have hnle : (cut l).length ≤ c := by omega
  have hlen0 : M.length ≤ csr.length := by rw [hM2, hcl6]; omega
  have hc6' : csr.take (((cut l).length + 2) * 3) = M ++ sentinels := by rw [hc6, hc1]; rfl
  have mv7 : MsgsAt g7 (.slice (some ⟨b, 0, none⟩) (cut l).length c) (cut l) := by
    refine .inr ⟨b, 0, c, csr, 3, true, anb, rfl, hgb7, by omega, ?_⟩
    rw [List.drop_zero, hM3]
    have := congrArg (List.take (3 * (cut l).length)) hc6'
    rw [List.take_take, Nat.min_eq_left (by omega), List.take_left' (show M.length = 3 * (cut l).length by omega)] at this
    exact this
  simp (disch := first | omega | (simp only [newRow_size, Array.size_setIfInBounds, Array.size_push]; done) | (simp only [newRow_size, Array.size_setIfInBounds, Array.size_push]; omega)) [r25_9, slcV, optInt, hnle]
  refine Ans.next (ls7.send (F := F) (by omega) gd.w (by omega) mv7 (by omega) (by intro x o n' c' e; injection e with e1 _ _; injection e1 with e1; injection e1 with e1 _ _; subst e1; exact hbW _ (by simp))) ?_
  rintro got g8 ⟨sgot, W', ls8, m8⟩
  have y8 := m8.1.1
  have og := sgot.one
  simp only [oneCell] at og
  have hgb8 := (m8.1.get (lt_of_get hgb7) (hbW b (by simp))).trans hgb7
  have lo8 := lo7.kept m8.1 hbW
  have h777 : (csr.drop ((cut l).length * 3)).take 1 = [.int .i64 777] ∧ (csr.drop (((cut l).length + 1) * 3)).take 1 = [.int .i64 778] := by
    have h1 : (csr.drop ((cut l).length * 3)).take 6 = sentinels := by
      have := congrArg (List.drop ((cut l).length * 3)) hc6'
      rw [List.drop_take, List.drop_left' hM2, show ((cut l).length + 2) * 3 - (cut l).length * 3 = 6 by omega] at this
      exact this
    constructor
    · have := congrArg (List.take 1) h1
      rw [List.take_take] at this
      exact this
    · have := congrArg (fun z => (z.drop 3).take 1) h1
      simp only [List.drop_take, List.drop_drop, List.take_take] at this
      rw [Nat.succ_mul]
      exact this
  have hw : IntKind.i64.wrap (((cut l).length : Int) + 1) = (((cut l).length + 1 : Nat) : Int) := by rw [wrap_id (by omega) (by omega)]; rfl
  have hb1 : (cut l).length < (cut l).length + 2 := by omega
  have hb2 : (cut l).length + 1 < (cut l).length + 2 := by omega
  have hb3 : (cut l).length * 3 + 1 ≤ csr.length := by omega
  have hb4 : ((cut l).length + 1) * 3 + 1 ≤ csr.length := by omega
  simp (disch := first | omega | (simp only [newRow_size, Array.size_setIfInBounds, Array.size_push]; done) | (simp only [newRow_size, Array.size_setIfInBounds, Array.size_push]; omega)) [r25_10, hgb8, h777.1, h777.2, eqT, eqF, neT, neF, ltT, ltF, leT, leF, nltT, nltF, nleT, nleF, nneT, nneF, List.getElem?_cons_zero, List.getElem?_cons_succ, hw, hb1, hb2, hb3, hb4]
  have hDl : ∀ x ∈ own, x < g.size := e5
  have y7 := k07.1
  have bm8 : SlR (fun x => g.size ≤ x ∧ x < g1.size) 3 MsgC g8 u (cut l) := by
    refine SlM.imp bm.sl (fun x hx q => ⟨q, hx⟩) (fun x zs hx hz => (cel_congr ?_).trans hz)
    have hx' : g.size ≤ x := hx
    have hxl := cel_lt hz
    have hxo : x ∉ own := fun q => by have := hDl x q; omega
    refine (m8.1.get (by omega) (fun q => by have := s.ls.lt x q; omega)).trans ((k7.get (by omega) (by simp; omega)).trans ((k36.get (by omega) hxo).trans ((k3.get (by omega) (by simp)).trans (k2.get hxl (by simp)))))
  refine lpC_spec (F := F) (by omega) bm8 hcl lo8 (by omega) nd6 (fun x hx => by have := lt6 x hx; omega) ?_ ?_ ?_
  · intro x hx q
    rcases hown2 x hx with r | r
    · have := hDl x r; omega
    · omega
  · intro i m hm
    have hi := (List.getElem?_eq_some_iff.1 hm).1
    have := mcells_at hm sentinels
    rw [hM3, ← hc6', List.drop_take, List.take_take, Nat.min_eq_left (by omega)] at this
    exact this
  intro g9 own3 cs3 e lo9 nd9 lt9 m9
  have y9 := m9.1.1
  have hown3 : ∀ x ∈ own3, x ∈ own ∨ g3.size ≤ x := by
    intro x hx
    rcases m9.2 x hx with r | r
    · exact hown2 x r
    · exact .inr (by omega)
  have hW'l := ls8.lt
  have hfar9 : ∀ x, x < g.size → x ∉ d :: own → x ∉ W → hget g9 x = hget g x := by
    intro x hx hn hw
    simp only [List.mem_cons, not_or] at hn
    refine (m9.1.get (by omega) (fun q => ?_)).trans ((m8.1.get (by omega) hw).trans (k07.get hx (by simp [hn])))
    rcases hown2 x q with r | r
    · exact hn.2 r
    · omega
  have hnew9 : ∀ x, g.size ≤ x → x < g3.size → hget g9 x = hget g3 x := by
    intro x hx hl
    have hxo : x ∉ own := fun q => by have := hDl x q; omega
    refine (m9.1.get (by omega) (fun q => ?_)).trans ((m8.1.get (by omega) (fun q => by have := s.ls.lt x q; omega)).trans ((k7.get (by omega) (by simp; omega)).trans (k36.get hl hxo)))
    rcases hown2 x q with r | r
    · exact hxo r
    · omega
  have hvb9 := (hnew9 g2.size (by omega) (by omega)).trans hvb3
  have hrb9 := (hfar9 rb hrbs nrb.2.2 nrb.2.1).trans hrb
  have hvb9s := lt_of_get hvb9
  have hrb9s := lt_of_get hrb9
  have hdW : d ∉ W := s.wd d (by simp)
  have hdW' : d ∉ W' := fun q => by
    rcases m8.2 d q with r | r
    · exact hdW r
    · omega
  have hd9 := (m9.1.get (by omega) hdn2).trans ((m8.1.get (by omega) hdW).trans hd7)
  have hW'2 : ∀ x ∈ W', x ∈ W ∨ g7.size ≤ x := m8.2
  have hW'n : ∀ x ∈ W', x ∉ b :: anb := by
    intro x hx q
    rcases hW'2 x hx with r | r
    · exact hbW x q r
    · have := lt6 x q; omega
  have ls9 := ls8.kept m9.1 hW'n
  have got9 : SlR (fun x => g7.size ≤ x ∧ x < g8.size) 1 IntC g9 got (sendR nn fl last (cut l)).2.2 := by
    refine SlI.imp sgot (fun x hx q => ⟨q, hx⟩) (fun x zs hx hz => (cel_congr ?_).trans hz)
    have hx' : g7.size ≤ x := hx
    exact m9.1.get (cel_lt hz) (fun q => by have := lt6 x q; omega)
  have want9 : SlR (fun x => g1.size ≤ x ∧ x < g2.size) 1 IntC g9 u2 (sendR nn fl last (cut l)).2.2 := by
    refine SlI.imp su2 (fun x hx q => ⟨q, hx⟩) (fun x zs hx hz => (cel_congr ?_).trans hz)
    have hx' : g1.size ≤ x := hx
    have hxl := cel_lt hz
    exact (hnew9 x (by omega) (by omega)).trans (k3.get hxl (by simp))
  have sv2 := hv2.same
  have ne1 : ¬ rb = g2.size := by omega
  have hns := sendR_ns nn (cut l) fl last
  obtain ⟨gg, hgg, hints⟩ : ∃ gg, gg = g9 ∧ cf F 27 [got, u2] g9 = some (.bool true, gg) := by
    obtain ⟨r, h', e1, e2, e3⟩ := ints_same (F := F) (by omega) got9 want9 (by omega)
    subst e2 e3
    exact ⟨_, rfl, e1⟩
  subst hgg
  rw [hcs2] at hvb9
  simp (disch := first | omega | (simp only [newRow_size, Array.size_setIfInBounds, Array.size_push]; done) | (simp only [newRow_size, Array.size_setIfInBounds, Array.size_push]; omega)) [d25_17, dk_go, chks_nil, chks_cons, chkA_nil, chkA_cons, chk1_no, chk1_yes, chkV_some, hAt_eq, hOf_some, hOf_none, sameV, sameL, hvb9, hrb9, hints, o2, eqT, eqF, neT, neF, ltT, ltF, leT, leF, nltT, nltF, nleT, nleF, nneT, nneF, List.getElem?_cons_zero, List.getElem?_cons_succ, sv2, ne1, sameCell_int, sameCell_bool]
  rw [← hcs2]
  refine hk _ _ (PlDone.of (P' := fun x => (P x ∨ g.size ≤ x) ∧ x < g2.size) (W5 := W') (D5 := d :: own3) ⟨ls9, ?_, ?_, ?_, ?_, ?_, fun x hx => by have := hx.2; omega⟩ ?_ ?_ ?_ (fun x hx => hx.1) hrbs nrb)
  · refine rf2.imp (fun x hx q => ⟨q, hx⟩) (fun x zs hx hz => (cel_congr ?_).trans hz)
    have hxl := cel_lt hz
    rcases Nat.lt_or_ge x g.size with hl | hl
    · rcases hx with q | q
      · exact (hfar9 x hl (fun r => s.pd x r q) (fun r => s.pw x r q)).trans (((k03.get hl (by simp)).symm).trans (k3.get hxl (by simp)))
      · omega
    · exact (hnew9 x hl (by omega)).trans (k3.get hxl (by simp))
  · refine ⟨_, _, own3, cs3, hd9, lo9, nd9, fun q => ?_, lt9, by omega, rfl⟩
    rcases m9.2 d q with r | r
    · exact hdn2 r
    · omega
  · intro x hx q
    rcases List.mem_cons.1 hx with rfl | hx
    · rcases q.1 with r | r
      · exact s.pd x (by simp) r
      · omega
    · rcases hown3 x hx with r | r
      · rcases q.1 with r' | r'
        · exact s.pd x (by simp [r]) r'
        · have := hDl x r; omega
      · have := q.2; omega
  · intro x hx q
    rcases List.mem_cons.1 hx with rfl | hx
    · exact hdW' q
    · rcases m9.2 x hx with r | r
      · exact hW'n x q r
      · have := hW'l x q; omega
  · intro x hx q
    rcases hW'2 x hx with r | r
    · rcases q.1 with r' | r'
      · exact s.pw x r r'
      · have := s.ls.lt x r; omega
    · have := q.2; omega
  · refine ⟨by omega, fun x hx hn => ?_⟩
    rw [List.mem_append, not_or] at hn
    exact hfar9 x hx hn.2 hn.1
  · intro x hx
    rcases hW'2 x hx with r | r
    · exact .inl r
    · exact .inr (by omega)
  · intro x hx
    rcases List.mem_cons.1 hx with rfl | hx
    · exact .inl (by simp)
    · rcases hown3 x hx with r | r
      · exact .inl (by simp [r])
      · exact .inr (by omega)

end Go.Proofs.Ytmenfnapbggglaa
