/- Ev13b: regions that draw their order: one operation, whichever comes next. -/
import Derived.Test.YtefbpobeclkbhaaEv13
set_option linter.unusedSimpArgs false
set_option linter.unusedVariables false
namespace Go.Ev
variable {P : Program} {ρ : Ren} {h : H} {a : Act} {w : World} {s : Env} {n : Nat} {cf : CF}
variable {dl : List DOp} {wins : List (Nat × List Nat)} {ops : Array Oper} {bef : Nat → Nat → Prop} {listed : Array Bool} {ρ0 : Ren} {h0 : H} {w0 : World} {s0 s1 : Env} {a0 : Act} {ts : List TR} {h1 : H} {p : Nat} {envAt : Nat → Env}

theorem getD_put (a : Act) (dst : Option Nat) (v' : Value) (t : Nat) (hn : ∀ d, dst = some d → d < a.tmps.size) : (a.put dst v').tmps.getD t undef = if dst = some t then v' else a.tmps.getD t undef := by
  cases dst with
  | none => simp [Act.put]
  | some d =>
    simp only [Act.put, Array.getD_eq_getD_getElem?]
    by_cases e : d = t
    · subst e
      rw [Array.getElem?_setIfInBounds_self_of_lt (hn d rfl)]; simp
    · rw [Array.getElem?_setIfInBounds_ne e]; simp [e]

/-- The slots behind an operation. -/
theorem put_slots (K : DOk P n ops dl wins bef) {x : Nat} {d : DOp} (hd : dl[x]? = some d) {tr : TR} (ht : ts[x]? = some tr) {ρ ρ' : Ren} (hle : ρ.le ρ') {o : Oper} (ho : ops[d.ix]? = some o) (hco : compOper P n ops o = some d.o) {v' : Value} (hv : VR ρ' tr.val v')
    (hsz : listed.size = ops.size) (tsz : a.tmps.size = n)
    (on : ∀ (k : Nat) (d : DOp) (tr : TR) (t : Nat), dl[k]? = some d → ts[k]? = some tr → Lst dl listed k → d.o.dst = some t → VR ρ tr.val (a.tmps.getD t undef))
    (off : ∀ t, (∀ (k : Nat) (d : DOp), dl[k]? = some d → Lst dl listed k → d.o.dst ≠ some t) → VR ρ (s0.get t) (a.tmps.getD t undef)) :
    (∀ (k : Nat) (d' : DOp) (tr : TR) (t : Nat), dl[k]? = some d' → ts[k]? = some tr → Lst dl (listed.setIfInBounds d.ix true) k → d'.o.dst = some t → VR ρ' tr.val ((a.put o.dst v').tmps.getD t undef)) ∧
    (∀ t, (∀ (k : Nat) (d' : DOp), dl[k]? = some d' → Lst dl (listed.setIfInBounds d.ix true) k → d'.o.dst ≠ some t) → VR ρ' (s0.get t) ((a.put o.dst v').tmps.getD t undef)) := by
  obtain ⟨_, hdd, hdn, _⟩ := compOper_inv hco
  have hn : ∀ q, o.dst = some q → q < a.tmps.size := fun q hq => by rw [tsz]; exact hdn q hq
  constructor
  · intro k d' tr' t hk hk2 hl hdt
    rw [getD_put a o.dst v' t hn]
    by_cases hxk : k = x
    · subst hxk
      rw [hd] at hk; cases hk
      rw [ht] at hk2; cases hk2
      rw [if_pos (by rw [← hdd]; exact hdt)]
      exact hv
    · rw [if_neg]
      · rcases (lst_set K hsz hd k).1 hl with h2 | h2
        · exact (on k d' tr' t hk hk2 h2 hdt).mono hle
        · exact absurd h2 hxk
      · intro hc
        exact hxk (K.dst k x d' d t hk hd hdt (by rw [hdd]; exact hc))
  · intro t hno
    rw [getD_put a o.dst v' t hn, if_neg]
    · exact (off t fun k d' hk hl => hno k d' hk ((lst_set K hsz hd k).2 (.inl hl))).mono hle
    · intro hc
      exact hno x d hd ((lst_set K hsz hd x).2 (.inr rfl)) (by rw [hdd]; exact hc)

set_option maxHeartbeats 2000000 in
theorem mid_step (K : DOk P n ops dl wins bef) (hcf : CallOk P cf) (q : Tr cf dl s0 h0 ts s1 h1 envAt) (r0 : Rel ρ0 h0 w0) (hchk : chks cf dl ts h1 wins = true) (M : Mid P n cf ops dl ρ0 h0 w0 s0 a0 ts h1 listed ρ p a w)
    {x : Nat} {d : DOp} (hd : dl[x]? = some d) (hx : ¬ Lst dl listed x) (hf : Free ops listed d.ix) {Kt : Act → World → Prop} {Q : Exit → Act → World → Prop}
    (hK : ∀ ρ' p' a' w', Mid P n cf ops dl ρ0 h0 w0 s0 a0 ts h1 (listed.setIfInBounds d.ix true) ρ' p' a' w' → Kt a' w') : wpOp P ops Q d.ix Kt a w := by
  have hxl : x < dl.length := (List.getElem?_eq_some_iff.1 hd).1
  have htl : x < ts.length := by rw [q.len]; exact hxl
  obtain ⟨tr, ht⟩ : ∃ tr, ts[x]? = some tr := ⟨ts[x], by simp [htl]⟩
  obtain ⟨e1, e2, e3, e4, e5⟩ := q.step x d tr hd ht
  obtain ⟨o, ho, hco⟩ := K.comp x d hd
  obtain ⟨g1, g2, g3, g4⟩ := compOper_inv hco
  -- what is ahead has been carried out
  have befl : ∀ j, bef x j → Lst dl listed j := fun j hb => bef_listed K M.cl x j d hd hf hb
  have befl' : ∀ k j, Lst dl listed k → bef k j → Lst dl listed j := by
    rintro k j ⟨dk, hdk, hlk⟩ hb
    exact bef_listed K M.cl k j dk hdk (fun o' ho' e he hb' => M.cl dk.ix o' ho' hlk e he hb') hb
  -- the operands
  have henv : EnvRel ρ n tr.env a.tmps := by
    refine ⟨M.tsz, fun t => ?_⟩
    rw [e1]
    by_cases hts : t ∈ d.slots
    · have hk : ((envAt x).keep d.slots).get t = (envAt x).get t ∨ ((envAt x).keep d.slots).get t = junk := get_keep _ _ _
      rcases hk with hk | hk
      · rw [hk]
        obtain ⟨t1, t2⟩ := q.get K.dst t x (by omega)
        by_cases hex : ∃ j d', dl[j]? = some d' ∧ Lst dl listed j ∧ d'.o.dst = some t
        · obtain ⟨j, d', hj, hlj, hdt⟩ := hex
          have hjl : j < dl.length := (List.getElem?_eq_some_iff.1 hj).1
          have htj : ts[j]? = some (ts[j]'(by rw [q.len]; exact hjl)) := by simp [q.len, hjl]
          have hjx : j < x := by
            rcases K.slot x d t hd hts j d' hj hdt with rfl | hb | hb
            · exact absurd hlj hx
            · exact befp_lt K x j hb
            · exact absurd (befl' j x hlj hb) hx
          rw [t1 j d' _ hjx hj htj hdt]
          exact M.on j d' _ t hj htj hlj hdt
        · rw [t2]
          · exact M.off t fun k d' hk hl hdt => hex ⟨k, d', hk, hl, hdt⟩
          · intro j d' hjx hj hdt
            rcases K.slot x d t hd hts j d' hj hdt with rfl | hb | hb
            · omega
            · exact hex ⟨j, d', hj, befl j hb, hdt⟩
            · have := befp_lt K j x hb; omega
      · rw [hk]; exact .junk _
    · have : ((envAt x).keep d.slots).get t = junk := by
        have hgen : ∀ (l : List Nat), t ∉ l → ((envAt x).keep l).get t = junk := by
          intro l
          induction l with
          | nil => intro _; rfl
          | cons y l ih =>
            intro hn
            simp only [List.mem_cons, not_or] at hn
            simp only [Env.keep, List.map_cons, Env.get]
            have : (y == t) = false := by simpa using Ne.symm hn.1
            rw [this]
            exact ih hn.2
        exact hgen _ hts
      rw [this]; exact .junk _
  -- wanted or not
  have hwant : Region.wanted o (yielded ops a.tmps) = tr.ran := by
    unfold wantedA at e2
    rcases g4 with ⟨w1, w2⟩ | ⟨j, b, t, w1, w2, w3⟩
    · rw [w2] at e2; simp at e2
      rw [e2]; simp [Region.wanted, w1]
    · rw [w2] at e2
      simp only at e2
      split at e2
      · rename_i c hc
        simp at e2
        have hv := henv.2 t
        rw [hc] at hv
        have hv' := hv.bool_inv
        have hget : a.tmps[t]? = some (.bool c) := by
          rw [Array.getD_eq_getD_getElem?] at hv'
          cases htt : a.tmps[t]? with
          | none => rw [htt] at hv'; simp [undef] at hv'
          | some z => rw [htt] at hv'; simp at hv'; rw [hv']
        rw [← e2]
        simp [Region.wanted, w1, yielded, w3, hget]
      · rename_i hc
        have e2' := Option.some.inj e2
        have hv := henv.2 t
        rw [hc] at hv
        obtain ⟨l', hv', hl'⟩ := hv.tuple_inv
        cases hl'
        have hy : yielded ops a.tmps j = none := by
          unfold yielded
          rw [w3]
          rw [Array.getD_eq_getD_getElem?] at hv'
          cases htt : a.tmps[t]? with
          | none => simp [htt]
          | some z => rw [htt] at hv'; simp at hv'; simp [htt, hv']
        rw [← e2']
        simp [Region.wanted, w1, hy]
      · cases e2
  have hhx : hAt ts h1 x = tr.hin := hAt_of ht
  have hLset := lst_set K M.sz hd
  have hsz' : (listed.setIfInBounds d.ix true).size = ops.size := by simp [M.sz]
  have hcl' := closed_set M.cl hf
  -- a write comes at its place
  have hWp : isW dl x → x = p := by
    intro hw
    rcases Nat.lt_trichotomy x p with hlt | heq | hgt
    · exact absurd ((M.wl x hw).2 hlt) hx
    · exact heq
    · have hp := M.pw (by omega)
      exact absurd (befl p (K.wtot p x hp.1 hw hgt)) hp.2
  -- none that writes: the place stays
  have stay : ¬ isW dl x → ∀ {ρ' : Ren} {a' : Act} {w' : World}, ρ.le ρ' → Rel ρ' (hAt ts h1 p) w' → Ext ρ0 h0 w0 ρ' (hAt ts h1 p) w' → a'.tmps.size = n → a'.defers = a0.defers →
      (∀ (k : Nat) (d' : DOp) (tr : TR) (t : Nat), dl[k]? = some d' → ts[k]? = some tr → Lst dl (listed.setIfInBounds d.ix true) k → d'.o.dst = some t → VR ρ' tr.val (a'.tmps.getD t undef)) →
      (∀ t, (∀ (k : Nat) (d' : DOp), dl[k]? = some d' → Lst dl (listed.setIfInBounds d.ix true) k → d'.o.dst ≠ some t) → VR ρ' (s0.get t) (a'.tmps.getD t undef)) →
      (∀ (k : Nat) (tr : TR), isA dl k → ts[k]? = some tr → tr.ran = true → ¬ Lst dl listed k → k ≠ x → k < p → ρ' tr.hin.size = none) →
      Mid P n cf ops dl ρ0 h0 w0 s0 a0 ts h1 (listed.setIfInBounds d.ix true) ρ' p a' w' := by
    intro hnw ρ' a' w' hle hr hext hts hdf hon hoff hlate
    refine ⟨hsz', hcl', M.ple, ?_, ?_, hr, hext, hts, hdf, hon, hoff, M.mono, ?_⟩
    · intro hp
      obtain ⟨p1, p2⟩ := M.pw hp
      refine ⟨p1, fun hl => ?_⟩
      rcases (hLset p).1 hl with h2 | h2
      · exact p2 h2
      · subst h2; exact hnw p1
    · intro k hk
      rw [hLset]
      constructor
      · rintro (h2 | rfl)
        · exact (M.wl k hk).1 h2
        · exact absurd hk hnw
      · intro h2; exact .inl ((M.wl k hk).2 h2)
    · intro k tr' hak htk hran hnl hkp
      have hkx : k ≠ x := fun e => hnl ((hLset k).2 (.inr e))
      have hnl' : ¬ Lst dl listed k := fun h2 => hnl ((hLset k).2 (.inl h2))
      obtain ⟨_, l2, l3⟩ := M.late k tr' hak htk hran hnl' hkp
      exact ⟨hlate k tr' hak htk hran hnl' hkx hkp, l2, l3⟩
  -- one that writes: on to the next
  have go : x = p → isW dl x → ∀ {ρ' : Ren} {a' : Act} {w' : World}, ρ.le ρ' → Rel ρ' (hAt ts h1 (p + 1)) w' → Ext ρ0 h0 w0 ρ' (hAt ts h1 (p + 1)) w' → Ext ρ (hAt ts h1 p) w ρ' (hAt ts h1 (p + 1)) w' → a'.tmps.size = n → a'.defers = a0.defers →
      (∀ (k : Nat) (d' : DOp) (tr : TR) (t : Nat), dl[k]? = some d' → ts[k]? = some tr → Lst dl (listed.setIfInBounds d.ix true) k → d'.o.dst = some t → VR ρ' tr.val (a'.tmps.getD t undef)) →
      (∀ t, (∀ (k : Nat) (d' : DOp), dl[k]? = some d' → Lst dl (listed.setIfInBounds d.ix true) k → d'.o.dst ≠ some t) → VR ρ' (s0.get t) (a'.tmps.getD t undef)) →
      ∃ p', Mid P n cf ops dl ρ0 h0 w0 s0 a0 ts h1 (listed.setIfInBounds d.ix true) ρ' p' a' w' := by
    intro hxp hw ρ' a' w' hle hr hext hstep hts hdf hon hoff
    obtain ⟨p', n1, n2, n3, n4⟩ := next_w dl (dl.length - (p + 1)) (p + 1) (by omega)
    obtain ⟨c1, c2, c3, c4⟩ := quiet_chain (ρ0 := ρ0) (h0 := h0) (w0 := w0) q (p' - (p + 1)) p' (m := p + 1) (by omega) n2 n4
    -- sizes rise
    have hmono : ∀ k, k ≤ p' → ∀ j, j ≤ k → (hAt ts h1 j).size ≤ (hAt ts h1 k).size := by
      intro k hk j hj
      by_cases hkp : k ≤ p
      · exact M.mono j k hj hkp
      · obtain ⟨_, _, c3', _⟩ := quiet_chain (ρ0 := ρ0) (h0 := h0) (w0 := w0) q (k - (p + 1)) k (m := p + 1) (by omega) (by omega) (fun z hz hz2 => by have := n4 z hz hz2; omega)
        by_cases hjp : j ≤ p
        · have a1 := M.mono j p hjp (Nat.le_refl _)
          have a2 := hstep.hsz
          omega
        · obtain ⟨_, _, c5', _⟩ := quiet_chain (ρ0 := ρ0) (h0 := h0) (w0 := w0) q (k - j) k (m := j) (by omega) (by omega) (fun z hz hz2 => by have := n4 z hz (by omega); omega)
          exact c5'
    refine ⟨p', hsz', hcl', n2, ?_, ?_, c1 _ _ hr, c2 _ _ hext, hts, hdf, hon, hoff, fun j k hj hk => hmono k hk j hj, ?_⟩
    · intro hp
      refine ⟨n3 hp, fun hl => ?_⟩
      rcases (hLset p').1 hl with h2 | h2
      · have := (M.wl p' (n3 hp)).1 h2; omega
      · omega
    · intro k hk
      rw [hLset]
      constructor
      · rintro (h2 | rfl)
        · have := (M.wl k hk).1 h2; omega
        · omega
      · intro h2
        by_cases hkp : k < p
        · exact .inl ((M.wl k hk).2 hkp)
        · by_cases hkp2 : k = p
          · exact .inr (by omega)
          · have := n4 k hk (by omega); omega
    · intro k tr' hak htk hran hnl hkp
      have hnl' : ¬ Lst dl listed k := fun h2 => hnl ((hLset k).2 (.inl h2))
      have hks : hAt ts h1 k = tr'.hin := hAt_of htk
      have hk1 : (hAt ts h1 (k + 1)).size = (hAt ts h1 k).size + 1 := by
        obtain ⟨dk, hdk, hck⟩ := hak
        obtain ⟨_, _, _, _, s5⟩ := q.step k dk tr' hdk htk
        have s5 := s5 hran
        cases hact : dk.o.act with
        | call f args => rw [hact] at hck; simp [clsAct] at hck
        | op ao =>
          rw [hact] at s5 hck
          obtain ⟨z, _, _, hz, _⟩ := evOp_a hck s5
          rw [hz, hks]; simp
      by_cases hkp1 : k < p
      · obtain ⟨l1, l2, l3⟩ := M.late k tr' hak htk hran hnl' hkp1
        refine ⟨?_, ?_, ?_⟩
        · cases hq : ρ' tr'.hin.size with
          | none => rfl
          | some i =>
            rcases hstep.nw _ i hq with h2 | ⟨h2, _⟩
            · rw [l1] at h2; cases h2
            · omega
        · have := hmono p' (Nat.le_refl _) p (by omega); omega
        · have a2 := hstep.hsz
          rw [c4 _ (by omega), hstep.af _ l2 l1]; exact l3
      · have hkp2 : p < k := by
          rcases Nat.lt_or_ge p k with h2 | h2
          · exact h2
          · have : k = p := by omega
            subst this
            obtain ⟨dk, hdk, hck⟩ := hak
            obtain ⟨dw, hdw, hcw⟩ := hw
            rw [← hxp] at hdk
            rw [hdk] at hdw; cases hdw
            rw [hck] at hcw; cases hcw
        have hge : (hAt ts h1 (p + 1)).size ≤ (hAt ts h1 k).size := hmono k (by omega) (p + 1) (by omega)
        refine ⟨?_, ?_, ?_⟩
        · cases hq : ρ' tr'.hin.size with
          | none => rfl
          | some i =>
            have := hr.dom _ i hq
            rw [← hks] at this
            omega
        · have := hmono p' (Nat.le_refl _) (k + 1) (by omega)
          rw [← hks]; omega
        · obtain ⟨_, _, _, c6⟩ := quiet_chain (ρ0 := ρ0) (h0 := h0) (w0 := w0) q (p' - (k + 1)) p' (m := k + 1) (by omega) n2 (fun z hz hz2 => n4 z hz (by omega))
          exact c6 _ (by rw [← hks]; omega)
  -- the operation
  unfold wpOp
  rw [ho]
  simp only [hwant]
  have hput : ∀ v', (a.put o.dst v').tmps.size = n := fun v' => by
    cases o.dst <;> simp [Act.put, M.tsz]
  have hdfs : ∀ v', (a.put o.dst v').defers = a0.defers := fun v' => by
    rw [← M.dfs]; cases o.dst <;> rfl
  cases hran : tr.ran with
  | false =>
    rw [if_neg (by simp)]
    obtain ⟨e6, e7⟩ := e4 hran
    obtain ⟨on', off'⟩ := put_slots K hd ht (Ren.le.refl ρ) ho hco (v' := undef) (by rw [e6]; exact .tuple .nil) M.sz M.tsz M.on M.off
    by_cases hw : isW dl x
    · have hxp := hWp hw
      subst hxp
      obtain ⟨p', M'⟩ := go rfl hw (Ren.le.refl ρ) (by rw [e7, ← hhx]; exact M.rel) (by rw [e7, ← hhx]; exact M.ext) (by rw [e7, ← hhx]; exact .refl _ _ _) (hput undef) (hdfs undef) on' off'
      exact hK _ _ _ _ M'
    · exact hK _ _ _ _ (stay hw (Ren.le.refl ρ) M.rel M.ext (hput undef) (hdfs undef) on' off' fun k tr' hak htk hr2 hnl _ hkp => (M.late k tr' hak htk hr2 hnl hkp).1)
  | true =>
    rw [if_pos rfl]
    refine .inl ?_
    have e5 := e5 hran
    -- read and reckoned: the same here
    have plain : ¬ isW dl x → (evAct cf d.o.act tr.env (hAt ts h1 p) = some (tr.val, hAt ts h1 p)) → o.wp P a w Kt Q := by
      intro hnw ev
      refine evAct_sound o g1 hcf M.rel henv ev Kt Q ?_
      rintro v' w' ⟨ρ', hv, hr, hx2⟩
      obtain ⟨on', off'⟩ := put_slots K hd ht hx2.le ho hco hv M.sz M.tsz M.on M.off
      refine hK _ _ _ _ (stay hnw hx2.le hr (Ext.trans r0 M.ext hx2) (hput v') (hdfs v') on' off' ?_)
      intro k tr' hak htk hr2 hnl _ hkp
      obtain ⟨l1, l2, _⟩ := M.late k tr' hak htk hr2 hnl hkp
      cases hq : ρ' tr'.hin.size with
      | none => rfl
      | some i =>
        rcases hx2.nw _ i hq with h2 | ⟨h2, _⟩
        · rw [l1] at h2; cases h2
        · omega
    cases hcls : clsAct d.o.act with
    | n =>
      have hnw : ¬ isW dl x := by rintro ⟨d2, hd2, hc2⟩; rw [hd] at hd2; cases hd2; rw [hcls] at hc2; cases hc2
      refine plain hnw ?_
      cases hact : d.o.act with
      | call f args => rw [hact] at hcls; simp [clsAct] at hcls
      | op ao =>
        rw [hact] at e5 hcls
        exact (evOp_n hcls e5).2 _
    | r =>
      have hnw : ¬ isW dl x := by rintro ⟨d2, hd2, hc2⟩; rw [hd] at hd2; cases hd2; rw [hcls] at hc2; cases hc2
      refine plain hnw ?_
      have hpcond : p = dl.length ∨ isW dl p := by
        rcases Nat.lt_or_ge p dl.length with h2 | h2
        · exact .inr (M.pw h2).1
        · exact .inl (Nat.le_antisymm M.ple h2)
      have hw1 : ∀ z, isW dl z → z < p → ¬ bef z x := fun z hz hzp hb => hx (befl' z x ((M.wl z hz).2 hzp) hb)
      have hw2 : ∀ z, isW dl z → p ≤ z → ¬ bef x z := fun z hz hzp hb => by
        have := (M.wl z hz).1 (befl z hb); omega
      cases hact : d.o.act with
      | call f args => rw [hact] at hcls; simp [clsAct] at hcls
      | op ao =>
        have hcls2 := hcls
        rw [hact] at e5 hcls2
        simp only [clsAct] at hcls2
        simp only [evAct] at e5 ⊢
        have hsame := (evOp_r hcls2 e5).1
        rcases K.win x d hd hcls p hpcond hw1 hw2 with ⟨x1, x2⟩ | ⟨ps, x1, x2⟩
        · refine read_chain q hcls2 (m := x) ?_ (p - x) p (by omega) M.ple x2
          rw [hhx]; rw [e5, hsame]
        · have hck := chks_get hchk x1 x2 hd ht
          unfold chk1 at hck
          rw [hran, hact] at hck
          simp only [evAct, Bool.not_true, Bool.false_or] at hck
          split at hck
          · rename_i v2 h2 hv2
            have hv2e := sameV_eq hck
            subst hv2e
            rw [hv2, (evOp_r hcls2 hv2).1]
          · cases hck
    | w =>
      have hw : isW dl x := ⟨d, hd, hcls⟩
      have hxp := hWp hw
      subst hxp
      rw [← hhx] at e5
      refine evAct_sound o g1 hcf M.rel henv e5 Kt Q ?_
      rintro v' w' ⟨ρ', hv, hr, hx2⟩
      obtain ⟨on', off'⟩ := put_slots K hd ht hx2.le ho hco hv M.sz M.tsz M.on M.off
      obtain ⟨p', M'⟩ := go rfl hw hx2.le hr (Ext.trans r0 M.ext hx2) hx2 (hput v') (hdfs v') on' off'
      exact hK _ _ _ _ M'
    | a =>
      have hA : isA dl x := ⟨d, hd, hcls⟩
      have hnw : ¬ isW dl x := by rintro ⟨d2, hd2, hc2⟩; rw [hd] at hd2; cases hd2; rw [hcls] at hc2; cases hc2
      have hxp : x < p := by
        rcases Nat.lt_trichotomy x p with h2 | h2 | h2
        · exact h2
        · subst h2; exact absurd (M.pw hxl).1 hnw
        · have hp := M.pw (by omega)
          exact absurd (befl p (K.alate x p hA hp.1 h2)) hp.2
      obtain ⟨l1, l2, l3⟩ := M.late x tr hA ht hran hx hxp
      cases hact : d.o.act with
      | call f args => rw [hact] at hcls; simp [clsAct] at hcls
      | op ao =>
        have hcls2 := hcls
        rw [hact] at e5 hcls2
        simp only [clsAct] at hcls2
        simp only [evAct] at e5
        obtain ⟨xb, b1, b2, b3, b4⟩ := evOp_a hcls2 e5
        have hao : compOp P o.op = some ao := by
          unfold compAct at g1
          split at g1
          · rw [hact] at g1; cases g1
          · obtain ⟨z, hz, hzz⟩ := Option.map_eq_some_iff.1 g1
            rw [hact] at hzz; cases hzz; exact hz
        obtain ⟨v', obj, i, c1, c2, c3, c4⟩ := goodA (w := w) o hao hcls2 M.rel henv b1
        have hblk : (hAt ts h1 p)[tr.hin.size]? = some xb := by rw [l3, b3]; simp
        have hle : ρ.le (ρ.put tr.hin.size i) := fun c j hc => by
          have : c ≠ tr.hin.size := fun e => by subst e; rw [l1] at hc; cases hc
          simp [Ren.put, this, hc]
        have hr := adopt_rel M.rel l1 hblk obj i c2 (c3 _ hle) b4
        have hge : h0.size ≤ tr.hin.size := by
          have := M.mono 0 x (Nat.zero_le _) (by omega)
          rw [q.h0, hhx] at this; exact this
        have hext := adopt_ext M.ext l1 hge obj i c2
        have hv : VR (ρ.put tr.hin.size i) tr.val v' := by rw [b2]; exact c4 _ _ (by simp [Ren.put])
        obtain ⟨on', off'⟩ := put_slots K hd ht hle ho hco hv M.sz M.tsz M.on M.off
        have hdone : Kt (a.put o.dst v') (w.alloc obj) := by
          refine hK _ _ _ _ (stay hnw hle hr hext (hput v') (hdfs v') on' off' ?_)
          intro k tr' hak htk hr2 hnl hkx hkp
          obtain ⟨m1, m2, _⟩ := M.late k tr' hak htk hr2 hnl hkp
          have hks : hAt ts h1 k = tr'.hin := hAt_of htk
          have hne : tr'.hin.size ≠ tr.hin.size := by
            have grow : ∀ (y : Nat) (ty : TR), isA dl y → ts[y]? = some ty → ty.ran = true → (hAt ts h1 (y + 1)).size = (hAt ts h1 y).size + 1 := by
              intro y ty hay hty hry
              obtain ⟨dy, hdy, hcy⟩ := hay
              obtain ⟨_, _, _, _, s5⟩ := q.step y dy ty hdy hty
              have s5 := s5 hry
              cases hact2 : dy.o.act with
              | call f args => rw [hact2] at hcy; simp [clsAct] at hcy
              | op ao2 =>
                rw [hact2] at s5 hcy
                obtain ⟨z, _, _, hz, _⟩ := evOp_a hcy s5
                rw [hz, hAt_of (h1 := h1) hty]; simp
            rcases Nat.lt_or_ge k x with h2 | h2
            · have a1 := grow k tr' hak htk hr2
              have a2 := M.mono (k + 1) x (by omega) (by omega)
              rw [← hks, ← hhx]; omega
            · have a1 := grow x tr hA ht hran
              have a2 := M.mono (x + 1) k (by omega) (by omega)
              rw [← hks, ← hhx]; omega
          simp [Ren.put, hne, m1]
        exact OpWp.of_does (post := fun u z => u = v' ∧ z = w.alloc obj) c1 ⟨rfl, rfl⟩ Kt Q (by rintro u z ⟨rfl, rfl⟩; exact hdone)

end Go.Ev
