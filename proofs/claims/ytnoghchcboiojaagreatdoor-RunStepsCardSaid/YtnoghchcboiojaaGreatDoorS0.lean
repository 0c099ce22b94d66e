/- Texts of the proofs over heraldlaw18, put together by a program (merge18c.py): Rp2 Rp3 Sy2 Sy3. -/
import Derived.Test.YtnoghchcboiojaaGreatDoorC0
import Derived.Test.YtnoghchcboiojaaGreatDoorD12
import Derived.Test.YtnoghchcboiojaaGreatDoorD11
set_option linter.unusedVariables false
set_option linter.unusedSimpArgs false
namespace Go.Rn
def LexG (w : Bs) (ts : List Tok) : Prop := ∀ r,Sep r → lex (w ++ r) = (lex r).map fun l => ts ++ l
theorem LexW.g {w : Bs} {t : Tok} (h : LexW w t) : LexG w [t] := h
inductive LexL : List Bs → List Tok → Prop
 | nil : LexL [] []
 | cons {w : Bs} {ts us : List Tok} {ws : List Bs} (h : LexG w ts) (t : LexL ws us) : LexL (w :: ws) (ts ++ us)
theorem LexL.append {ws vs : List Bs} {ts us : List Tok} (h : LexL ws ts) (g : LexL vs us) : LexL (ws ++ vs) (ts ++ us) := by
 induction h with
 | nil => exact g
 | cons h _ ih => rw [List.cons_append,List.append_assoc];exact .cons h ih
theorem LexL.join {ws : List Bs} {us : List Tok} (h : LexL ws us) : ∀ {w : Bs} {ts : List Tok},LexG w ts → LexG (joinW (w :: ws)) (ts ++ us) := by
 induction h with
 | nil => intro w ts hw;simpa [joinW] using hw
 | cons h t ih =>
  intro w ts hw r hr
  rename_i w2 ts2 us2 ws2
  show lex ((w ++ 32 :: joinW (w2 :: ws2)) ++ r) = _
  rw [List.append_assoc,List.cons_append,hw _ (sep_cons _),lex_blank (by decide),ih h r hr]
  cases lex r with
  | none => rfl
  | some l => simp
def Rest : List Tok → Prop
 | [] => True
 | .semi :: _ => True
 | _ => False
def placeK (s : Bs) : Tok := if s.head? = some 47 ∧ s.all bare = true then .place s else .quoted s
theorem pText_place (s : Bs) (h : s.length ≤ 256) (r : List Tok) : pText true (placeK s :: r) = some (s,r) := by
 unfold placeK
 split
 ·simp [pText,h]
 ·simp [pText,h]
def flagK (n : Int) : List Tok := if n = 1 then [.name w_brief] else if n = 2 then [.name w_counted] else if n = 3 then [.name w_brief,.name w_counted] else []
def opArgK (o : Op) : OA → List Tok
 | .p => [placeK o.place]
 | .d => [.quoted o.data]
 | .v => [.num o.version]
 | .f => flagK o.flags
theorem lexW_word {w : Bs} (h : w.all small = true) (h2 : w ≠ []) : LexG w [.name w] := by
 cases w with
 | nil => exact absurd rfl h2
 | cons c w => exact (lexW_name h).g
theorem opArg_lex {o : Op} {a : OA} {ws : List Bs} (h : opArgT o a = some ws) : LexL ws (opArgK o a) := by
 cases a with
 | p =>
  simp only [opArgT] at h
  split at h
  ·cases h;exact .cons (lexW_placed _).g .nil
  ·cases h
 | d =>
  simp only [opArgT] at h
  split at h
  ·cases h;exact .cons (lexW_quote _).g .nil
  ·cases h
 | v =>
  simp only [opArgT] at h
  obtain ⟨t,ht,hf⟩ := Option.map_eq_some_iff.1 h
  obtain ⟨h1,h2,rfl⟩ := numT_some ht
  cases hf
  exact .cons (lexW_num h1 h2).g .nil
 | f =>
  simp only [opArgT] at h
  have hb : LexG w_brief [.name w_brief] := lexW_word (by decide) (by decide)
  have hc : LexG w_counted [.name w_counted] := lexW_word (by decide) (by decide)
  simp only [opArgK,flagK]
  split at h
  ·rename_i h0;cases h;rw [h0];exact .nil
  ·split at h
   ·rename_i h0;cases h;rw [h0];exact .cons hb .nil
   ·split at h
    ·rename_i h0;cases h;rw [h0];exact .cons hc .nil
    ·split at h
     ·rename_i h0;cases h;rw [h0];exact .cons hb (.cons hc .nil)
     ·cases h
def setOA (o o0 : Op) : OA → Op
 | .p => { o0 with place := o.place }
 | .d => { o0 with data := o.data }
 | .v => { o0 with version := o.version }
 | .f => { o0 with flags := o.flags }
theorem pIs_rest {r : List Tok} (h : Rest r) (w : Bs) : pIs w r = none := by
 cases r with
 | nil => rfl
 | cons t r => cases t <;> first | rfl | cases h
theorem opArg_read {o : Op} {a : OA} {ws : List Bs} (h : opArgT o a = some ws) (o0 : Op) (r : List Tok) (hr : a = .f → Rest r) : pOpArg a o0 (opArgK o a ++ r) = some (setOA o o0 a,r) := by
 cases a with
 | p =>
  simp only [opArgT] at h
  split at h
  ·rename_i hl
   simp only [opArgK,pOpArg,List.cons_append,List.nil_append]
   rw [pText_place _ hl];rfl
  ·cases h
 | d =>
  simp only [opArgT] at h
  split at h
  ·rename_i hl
   simp only [opArgK,pOpArg,List.cons_append,List.nil_append]
   simp [pText,hl,setOA]
  ·cases h
 | v =>
  simp [opArgK,pOpArg,pNum,setOA]
 | f =>
  have hR := hr rfl
  simp only [opArgT] at h
  simp only [opArgK,pOpArg,setOA]
  have h1 : ∀ (s : Bs) (q : List Tok),pIs s (.name s :: q) = some q := fun s q => by simp [pIs]
  have h2 : ∀ (q : List Tok),pIs w_brief (.name w_counted :: q) = none := fun q => by
   show (if w_counted = w_brief then some q else none) = none;rw [if_neg (by decide)]
  split at h
  ·rename_i h0;rw [h0]
   simp [flagK,pFlags,pBrief,pCounted,pIs_rest hR]
  ·split at h
   ·rename_i h0;rw [h0]
    simp [flagK,pFlags,pBrief,pCounted,pIs_rest hR,h1]
   ·split at h
    ·rename_i h0;rw [h0]
     simp [flagK,pFlags,pBrief,pCounted,pIs_rest hR,h1,h2]
    ·split at h
     ·rename_i h0;rw [h0]
      simp [flagK,pFlags,pBrief,pCounted,pIs_rest hR,h1]
     ·cases h
def lastF : List OA → Bool
 | [] => true
 | [_] => true
 | a :: l => (match a with | .f => false | _ => true) && lastF l
theorem opArgs_read {o : Op} : ∀ {l : List OA} {ws : List Bs},opArgsT o l = some ws → LexL ws (l.flatMap (opArgK o)) ∧ (lastF l = true → ∀ (o0 : Op) (r : List Tok),Rest r → pOpArgs l o0 (l.flatMap (opArgK o) ++ r) = some (l.foldl (setOA o) o0,r))
 | [],ws,h => by
  simp [opArgsT] at h;subst h
  exact ⟨.nil,fun _ o0 r _ => rfl⟩
 | a :: l,ws,h => by
  unfold opArgsT at h
  split at h
  ·rename_i x y hx hy
   cases h
   obtain ⟨g1,g2⟩ := opArgs_read hy
   refine ⟨(opArg_lex hx).append g1,fun hl o0 r hr => ?_⟩
   have hl2 : lastF l = true ∧ (a = .f → l = []) := by
    cases l with
    | nil => exact ⟨rfl,fun _ => rfl⟩
    | cons b l =>
     simp only [lastF,Bool.and_eq_true] at hl
     exact ⟨hl.2,fun he => by subst he;simp at hl⟩
   rw [List.flatMap_cons,List.append_assoc]
   unfold pOpArgs
   rw [opArg_read hx o0 _ (fun he => by rw [hl2.2 he];simpa using hr)]
   exact g2 hl2.1 _ r hr
  ·cases h
theorem op_read {o : Op} {t : Bs} (h : opT o = some t) : ∃ ts,LexG t ts ∧ ts ≠ [] ∧ ∀ r,Rest r → pOp (ts ++ r) = some (o,r) := by
 unfold opT at h
 split at h
 ·rename_i hk
  have hks : o.kind = 1 ∨ o.kind = 2 ∨ o.kind = 3 ∨ o.kind = 4 ∨ o.kind = 5 ∨ o.kind = 6 ∨ o.kind = 7 := by omega
  have main : ∀ (k : Nat) (w : Bs) (l : List OA),o.kind = k → opTab[k - 1]? = some (w,l) → w.all small = true → w ≠ [] → lastF l = true → findW w 1 opTab = some (k,l) →
    ((match opTab[o.kind.toNat - 1]? with
      | some (w,r) => if (o.data = [] ∨ OA.d ∈ r) ∧ (o.version = 0 ∨ OA.v ∈ r) ∧ (o.flags = 0 ∨ OA.f ∈ r) then (opArgsT o r).map fun l => joinW (w :: l) else none
      | none => none) = some t) → ((o.data = [] ∨ OA.d ∈ l) ∧ (o.version = 0 ∨ OA.v ∈ l) ∧ (o.flags = 0 ∨ OA.f ∈ l) → l.foldl (setOA o) { kind := k } = o) →
    ∃ ts,LexG t ts ∧ ts ≠ [] ∧ ∀ r,Rest r → pOp (ts ++ r) = some (o,r) := by
   intro k w l hk ht hw1 hw2 hl hf h hset
   rw [show o.kind.toNat = k by omega,ht] at h
   simp only at h
   split at h
   ·rename_i hz
    obtain ⟨ws,hws,hj⟩ := Option.map_eq_some_iff.1 h
    subst hj
    obtain ⟨g1,g2⟩ := opArgs_read hws
    refine ⟨[.name w] ++ l.flatMap (opArgK o),g1.join (lexW_word hw1 hw2),by simp,fun r hr => ?_⟩
    rw [List.append_assoc]
    show (match findW w 1 opTab with
     | some (k,r') => pOpArgs r' { kind := k } (l.flatMap (opArgK o) ++ r)
     | none => none) = _
    rw [hf]
    show pOpArgs l { kind := k } _ = _
    rw [g2 hl _ r hr,hset hz]
   ·cases h
  rcases hks with e | e | e | e | e | e | e
  ·exact main 1 w_make [.p,.d,.f] e rfl rfl (by decide) rfl rfl h (by
    rintro ⟨_,h2,_⟩;simp at h2;cases o;simp_all [setOA])
  ·exact main 2 w_set [.p,.d,.v] e rfl rfl (by decide) rfl rfl h (by
    rintro ⟨_,_,h3⟩;simp at h3;cases o;simp_all [setOA])
  ·exact main 3 w_drop [.p,.v] e rfl rfl (by decide) rfl rfl h (by
    rintro ⟨h1,_,h3⟩;simp at h1 h3;cases o;simp_all [setOA])
  ·exact main 4 w_check [.p,.v] e rfl rfl (by decide) rfl rfl h (by
    rintro ⟨h1,_,h3⟩;simp at h1 h3;cases o;simp_all [setOA])
  ·exact main 5 w_get [.p] e rfl rfl (by decide) rfl rfl h (by
    rintro ⟨h1,h2,h3⟩;simp at h1 h2 h3;cases o;simp_all [setOA])
  ·exact main 6 w_look [.p] e rfl rfl (by decide) rfl rfl h (by
    rintro ⟨h1,h2,h3⟩;simp at h1 h2 h3;cases o;simp_all [setOA])
  ·exact main 7 w_list [.p] e rfl rfl (by decide) rfl rfl h (by
    rintro ⟨h1,h2,h3⟩;simp at h1 h2 h3;cases o;simp_all [setOA])
 ·cases h
theorem ops_read : ∀ (n : Nat) (l : List Op) (ts : List Bs),l.mapM opT = some ts → l ≠ [] → l.length ≤ n → ∃ us,LexG (joinS ts) us ∧ us ≠ [] ∧ pOps n us = some l
 | 0,l,ts,_,hne,hl => by
  cases l with
  | nil => exact absurd rfl hne
  | cons _ _ => simp at hl
 | n + 1,[],ts,_,hne,_ => absurd rfl hne
 | n + 1,[o],ts,h,_,_ => by
  rw [List.mapM_cons] at h
  cases ho : opT o with
  | none => rw [ho] at h;cases h
  | some t =>
   rw [ho] at h
   cases h
   obtain ⟨us,g1,g2,g3⟩ := op_read ho
   refine ⟨us,g1,g2,?_⟩
   unfold pOps
   have := g3 [] trivial
   rw [List.append_nil] at this
   rw [this]
 | n + 1,o :: o2 :: l,ts,h,_,hl => by
  rw [List.mapM_cons] at h
  cases ho : opT o with
  | none => rw [ho] at h;cases h
  | some t =>
   rw [ho] at h
   cases hm : (o2 :: l).mapM opT with
   | none => rw [hm] at h;cases h
   | some ts2 =>
    rw [hm] at h
    cases h
    obtain ⟨us,g1,g2,g3⟩ := op_read ho
    obtain ⟨vs,k1,k2,k3⟩ := ops_read n (o2 :: l) ts2 hm (by simp) (by simp at hl ⊢;omega)
    refine ⟨us ++ .semi :: vs,?_,by simp,?_⟩
    ·intro r hr
     cases ts2 with
     | nil =>
      rw [List.mapM_cons] at hm
      cases h2 : opT o2 with
      | none => rw [h2] at hm;cases hm
      | some q =>
       rw [h2] at hm
       cases h3 : l.mapM opT with
       | none => rw [h3] at hm;cases hm
       | some q2 => rw [h3] at hm;cases hm
     | cons t2 ts2 =>
      show lex ((t ++ 32 :: 59 :: 32 :: joinS (t2 :: ts2)) ++ r) = _
      rw [List.append_assoc,List.cons_append,List.cons_append,List.cons_append,g1 _ (sep_cons _),lex_blank (by decide),lex_semi,lex_blank (by decide),k1 r hr]
      cases lex r with
      | none => rfl
      | some l => simp
    ·unfold pOps
     rw [g3 (.semi :: vs) trivial]
     simp only
     rw [k3];rfl
def kindK (n : Int) : Tok := .name (if n = 1 then w_node else if n = 2 then w_kids else w_subtree)
def setA (s s0 : St) : Ar → St
 | .a => { s0 with a := s.a }
 | .b => { s0 with b := s.b }
 | .c => { s0 with c := s.c }
 | .p => { s0 with place := s.place }
 | .k => { s0 with b := s.b }
 | .o => { s0 with ops := s.ops }
theorem arg_read {s : St} {x : Ar} {t : Bs} (h : argT s x = some t) : ∃ ts,LexG t ts ∧ ∀ (s0 : St) (r : List Tok),(x = .o → r = []) → pArg x s0 (ts ++ r) = some (setA s s0 x,r) := by
 cases x with
 | a =>
  obtain ⟨h1,h2,rfl⟩ := numT_some h
  exact ⟨_,(lexW_num h1 h2).g,fun s0 r _ => rfl⟩
 | b =>
  obtain ⟨h1,h2,rfl⟩ := numT_some h
  exact ⟨_,(lexW_num h1 h2).g,fun s0 r _ => rfl⟩
 | c =>
  obtain ⟨h1,h2,rfl⟩ := numT_some h
  exact ⟨_,(lexW_num h1 h2).g,fun s0 r _ => rfl⟩
 | p =>
  simp only [argT] at h
  split at h
  ·rename_i hl
   cases h
   refine ⟨_,(lexW_placed _).g,fun s0 r _ => ?_⟩
   simp only [pArg,List.cons_append,List.nil_append]
   have := pText_place s.place hl r
   unfold placeK at this
   rw [this];rfl
  ·cases h
 | k =>
  simp only [argT,kindT] at h
  split at h
  ·rename_i h0
   cases h
   refine ⟨[.name w_node],lexW_word (by decide) (by decide),fun s0 r _ => ?_⟩
   simp [pArg,pKind,setA,h0]
  ·split at h
   ·rename_i h0
    cases h
    refine ⟨[.name w_kids],lexW_word (by decide) (by decide),fun s0 r _ => ?_⟩
    have : w_kids ≠ w_node := by decide
    simp [pArg,pKind,setA,h0,this]
   ·split at h
    ·rename_i h0
     cases h
     refine ⟨[.name w_subtree],lexW_word (by decide) (by decide),fun s0 r _ => ?_⟩
     have e1 : w_subtree ≠ w_node := by decide
     have e2 : w_subtree ≠ w_kids := by decide
     simp [pArg,pKind,setA,h0,e1,e2]
    ·cases h
 | o =>
  simp only [argT,opsT] at h
  split at h
  ·rename_i hl
   obtain ⟨ts,h1,rfl⟩ := Option.map_eq_some_iff.1 h
   obtain ⟨us,g1,g2,g3⟩ := ops_read 4 s.ops ts h1 (by rintro e;rw [e] at hl;simp at hl) hl.2
   refine ⟨us,g1,fun s0 r hr => ?_⟩
   rw [hr rfl,List.append_nil]
   simp only [pArg,g3];rfl
  ·cases h
def lastO : List Ar → Bool
 | [] => true
 | [_] => true
 | y :: l => (match y with | .o => false | _ => true) && lastO l
theorem args_read {s : St} : ∀ {l : List Ar} {ws : List Bs},l.mapM (argT s) = some ws → ∃ ts,LexL ws ts ∧ (lastO l = true → ∀ (s0 : St),pArgs l s0 ts = some (l.foldl (setA s) s0,[]))
 | [],ws,h => by
  cases h
  exact ⟨[],.nil,fun _ s0 => rfl⟩
 | y :: l,ws,h => by
  rw [List.mapM_cons] at h
  cases ho : argT s y with
  | none => rw [ho] at h;cases h
  | some t =>
   rw [ho] at h
   cases hm : l.mapM (argT s) with
   | none => rw [hm] at h;cases h
   | some ts2 =>
    rw [hm] at h
    cases h
    obtain ⟨us,g1,g2⟩ := arg_read ho
    obtain ⟨vs,k1,k2⟩ := args_read hm
    refine ⟨us ++ vs,.cons g1 k1,fun hl s0 => ?_⟩
    have hl2 : lastO l = true ∧ (y = .o → l = []) := by
     cases l with
     | nil => exact ⟨rfl,fun _ => rfl⟩
     | cons yb l =>
      simp only [lastO,Bool.and_eq_true] at hl
      exact ⟨hl.2,fun he => by subst he;simp at hl⟩
    unfold pArgs
    rw [g2 s0 vs (fun he => by
     have := hl2.2 he
     subst this
     cases hm
     cases k1;rfl)]
    exact k2 hl2.1 _
theorem st_read {s : St} {t : Bs} (h : stT s = some t) : ∃ ts,LexG t ts ∧ ts ≠ [] ∧ pStep ts = some s := by
 unfold stT at h
 split at h
 ·rename_i hk
  have main : ∀ (k : Nat) (w : Bs) (l : List Ar),s.kind = k → stepTab[k - 1]? = some (w,l) → w.all small = true → w ≠ [] → lastO l = true → findW w 1 stepTab = some (k,l) →
    ((match stepTab[s.kind.toNat - 1]? with
      | some (w,r) => if (s.a = 0 ∨ Ar.a ∈ r) ∧ (s.b = 0 ∨ Ar.b ∈ r ∨ Ar.k ∈ r) ∧ (s.c = 0 ∨ Ar.c ∈ r) ∧ (s.place = [] ∨ Ar.p ∈ r) ∧ (s.ops = [] ∨ Ar.o ∈ r) then (r.mapM (argT s)).map fun l => joinW (w :: l) else none
      | none => none) = some t) → ((s.a = 0 ∨ Ar.a ∈ l) ∧ (s.b = 0 ∨ Ar.b ∈ l ∨ Ar.k ∈ l) ∧ (s.c = 0 ∨ Ar.c ∈ l) ∧ (s.place = [] ∨ Ar.p ∈ l) ∧ (s.ops = [] ∨ Ar.o ∈ l) → l.foldl (setA s) { kind := k } = s) →
    ∃ ts,LexG t ts ∧ ts ≠ [] ∧ pStep ts = some s := by
   intro k w l hk ht hw1 hw2 hl hf h hset
   rw [show s.kind.toNat = k by omega,ht] at h
   simp only at h
   split at h
   ·rename_i hz
    obtain ⟨ws,hws,hj⟩ := Option.map_eq_some_iff.1 h
    subst hj
    obtain ⟨ts,g1,g2⟩ := args_read hws
    refine ⟨[.name w] ++ ts,g1.join (lexW_word hw1 hw2),by simp,?_⟩
    show (match findW w 1 stepTab with
     | some (k,r) => match pArgs r { kind := k } ts with
      | some (s,[]) => some s
      | _ => none
     | none => none) = _
    rw [hf]
    simp only
    rw [g2 hl,hset hz]
   ·cases h
  have hks : s.kind = 1 ∨ s.kind = 2 ∨ s.kind = 3 ∨ s.kind = 4 ∨ s.kind = 5 ∨ s.kind = 6 ∨ s.kind = 7 ∨ s.kind = 8 ∨ s.kind = 9 ∨ s.kind = 10 ∨ s.kind = 11 ∨ s.kind = 12 ∨ s.kind = 13 ∨ s.kind = 14 ∨ s.kind = 15 ∨ s.kind = 16 := by omega
  rcases hks with e | e | e | e | e | e | e | e | e | e | e | e | e | e | e | e
  ·exact main 1 w_deliver [.a] e rfl rfl (by decide) rfl rfl h (by rintro ⟨h1,h2,h3,h4,h5⟩;simp at h1 h2 h3 h4 h5;cases s;simp_all [setA])
  ·exact main 2 w_drop [.a] e rfl rfl (by decide) rfl rfl h (by rintro ⟨h1,h2,h3,h4,h5⟩;simp at h1 h2 h3 h4 h5;cases s;simp_all [setA])
  ·exact main 3 w_double [.a] e rfl rfl (by decide) rfl rfl h (by rintro ⟨h1,h2,h3,h4,h5⟩;simp at h1 h2 h3 h4 h5;cases s;simp_all [setA])
  ·exact main 4 w_spoil [.a,.b,.c] e rfl rfl (by decide) rfl rfl h (by rintro ⟨h1,h2,h3,h4,h5⟩;simp at h1 h2 h3 h4 h5;cases s;simp_all [setA])
  ·exact main 5 w_tick [.a] e rfl rfl (by decide) rfl rfl h (by rintro ⟨h1,h2,h3,h4,h5⟩;simp at h1 h2 h3 h4 h5;cases s;simp_all [setA])
  ·exact main 6 w_crash [.a] e rfl rfl (by decide) rfl rfl h (by rintro ⟨h1,h2,h3,h4,h5⟩;simp at h1 h2 h3 h4 h5;cases s;simp_all [setA])
  ·exact main 7 w_within [.a,.b] e rfl rfl (by decide) rfl rfl h (by rintro ⟨h1,h2,h3,h4,h5⟩;simp at h1 h2 h3 h4 h5;cases s;simp_all [setA])
  ·exact main 8 w_restart [.a] e rfl rfl (by decide) rfl rfl h (by rintro ⟨h1,h2,h3,h4,h5⟩;simp at h1 h2 h3 h4 h5;cases s;simp_all [setA])
  ·exact main 9 w_promote [.a,.b] e rfl rfl (by decide) rfl rfl h (by rintro ⟨h1,h2,h3,h4,h5⟩;simp at h1 h2 h3 h4 h5;cases s;simp_all [setA])
  ·exact main 10 w_save [.a] e rfl rfl (by decide) rfl rfl h (by rintro ⟨h1,h2,h3,h4,h5⟩;simp at h1 h2 h3 h4 h5;cases s;simp_all [setA])
  ·exact main 11 w_do [.a,.o] e rfl rfl (by decide) rfl rfl h (by rintro ⟨h1,h2,h3,h4,h5⟩;simp at h1 h2 h3 h4 h5;cases s;simp_all [setA])
  ·exact main 12 w_watch [.a,.p,.k] e rfl rfl (by decide) rfl rfl h (by rintro ⟨h1,h2,h3,h4,h5⟩;simp at h1 h2 h3 h4 h5;cases s;simp_all [setA])
  ·exact main 13 w_unwatch [.a,.b] e rfl rfl (by decide) rfl rfl h (by rintro ⟨h1,h2,h3,h4,h5⟩;simp at h1 h2 h3 h4 h5;cases s;simp_all [setA])
  ·exact main 14 w_begin [.a] e rfl rfl (by decide) rfl rfl h (by rintro ⟨h1,h2,h3,h4,h5⟩;simp at h1 h2 h3 h4 h5;cases s;simp_all [setA])
  ·exact main 15 w_end [.a] e rfl rfl (by decide) rfl rfl h (by rintro ⟨h1,h2,h3,h4,h5⟩;simp at h1 h2 h3 h4 h5;cases s;simp_all [setA])
  ·exact main 16 w_calm [.a] e rfl rfl (by decide) rfl rfl h (by rintro ⟨h1,h2,h3,h4,h5⟩;simp at h1 h2 h3 h4 h5;cases s;simp_all [setA])
 ·cases h
end Go.Rn
namespace Go.Rn
def NoNL (t : Bs) : Prop := ∀ c ∈ t,c ≠ 10
theorem NoNL.append {a b : Bs} (h : NoNL a) (g : NoNL b) : NoNL (a ++ b) := fun c hc => (List.mem_append.1 hc).elim (h c) (g c)
theorem NoNL.cons {c : UInt8} {b : Bs} (h : c ≠ 10) (g : NoNL b) : NoNL (c :: b) := fun d hd => by
 rcases List.mem_cons.1 hd with rfl | hd
 ·exact h
 ·exact g d hd
theorem NoNL.nil : NoNL [] := fun c hc => by cases hc
theorem NoNL.of_all {p : UInt8 → Bool} (hp : p 10 = false) {s : Bs} (h : s.all p = true) : NoNL s := fun c hc e => by
 subst e
 rw [List.all_eq_true.1 h _ hc] at hp;cases hp
theorem nl_quoteB (c : UInt8) : NoNL (quoteB c) := by
 have : ∀ c : UInt8,(quoteB c).all (fun d => d != 10) = true := u8 (by decide +kernel)
 exact NoNL.of_all (by decide) (this c)
theorem nl_flat : ∀ (s : Bs),NoNL (s.flatMap quoteB)
 | [] => .nil
 | c :: s => by rw [List.flatMap_cons];exact (nl_quoteB c).append (nl_flat s)
theorem nl_quote (s : Bs) : NoNL (quote s) := .cons (by decide) ((nl_flat s).append (.cons (by decide) .nil))
theorem nl_placed (s : Bs) : NoNL (placed s) := by
 unfold placed
 split
 ·rename_i h;exact NoNL.of_all (by decide) h.2
 ·exact nl_quote s
theorem nl_itoa (n : Int) : NoNL (Lib.itoa n) := by
 unfold Lib.itoa
 split
 ·exact .cons (by decide) (NoNL.of_all (p := digit) (by decide) (dec_spec _).2.1)
 ·exact NoNL.of_all (p := digit) (by decide) (dec_spec _).2.1
theorem nl_word {w : Bs} (h : w.all small = true) : NoNL w := NoNL.of_all (by decide) h
theorem nl_joinW : ∀ (ws : List Bs),(∀ w ∈ ws,NoNL w) → NoNL (joinW ws)
 | [],_ => .nil
 | [w],h => h w (by simp)
 | w :: w2 :: ws,h => (h w (by simp)).append (.cons (by decide) (nl_joinW (w2 :: ws) fun x hx => h x (by simp [hx])))
theorem nl_joinS : ∀ (ws : List Bs),(∀ w ∈ ws,NoNL w) → NoNL (joinS ws)
 | [],_ => .nil
 | [w],h => h w (by simp)
 | w :: w2 :: ws,h => (h w (by simp)).append (.cons (by decide) (.cons (by decide) (.cons (by decide) (nl_joinS (w2 :: ws) fun x hx => h x (by simp [hx])))))
theorem nl_opArg {o : Op} {a : OA} {ws : List Bs} (h : opArgT o a = some ws) : ∀ w ∈ ws,NoNL w := by
 have hb : NoNL w_brief := nl_word (by decide)
 have hc : NoNL w_counted := nl_word (by decide)
 cases a <;> simp only [opArgT] at h
 ·split at h
  ·cases h;intro w hw;simp at hw;subst hw;exact nl_placed _
  ·cases h
 ·split at h
  ·cases h;intro w hw;simp at hw;subst hw;exact nl_quote _
  ·cases h
 ·obtain ⟨t,ht,hf⟩ := Option.map_eq_some_iff.1 h
  obtain ⟨h1,h2,rfl⟩ := numT_some ht
  cases hf;intro w hw;simp at hw;subst hw;exact nl_itoa _
 ·split at h
  ·cases h;intro w hw;cases hw
  ·split at h
   ·cases h;intro w hw;simp at hw;subst hw;exact hb
   ·split at h
    ·cases h;intro w hw;simp at hw;subst hw;exact hc
    ·split at h
     ·cases h;intro w hw;simp at hw;rcases hw with rfl | rfl
      ·exact hb
      ·exact hc
     ·cases h
theorem nl_opArgs {o : Op} : ∀ {l : List OA} {ws : List Bs},opArgsT o l = some ws → ∀ w ∈ ws,NoNL w
 | [],ws,h,w,hw => by simp [opArgsT] at h;subst h;cases hw
 | a :: l,ws,h,w,hw => by
  unfold opArgsT at h
  split at h
  ·rename_i x y hx hy
   cases h
   rcases List.mem_append.1 hw with hw | hw
   ·exact nl_opArg hx w hw
   ·exact nl_opArgs hy w hw
  ·cases h
theorem nl_opTab : ∀ p ∈ opTab,p.1.all small = true := by decide
theorem nl_stepTab : ∀ p ∈ stepTab,p.1.all small = true := by decide
theorem nl_op {o : Op} {t : Bs} (h : opT o = some t) : NoNL t := by
 unfold opT at h
 split at h
 ·split at h
  ·rename_i w r hw
   split at h
   ·obtain ⟨ws,hws,hj⟩ := Option.map_eq_some_iff.1 h
    subst hj
    refine nl_joinW _ fun x hx => ?_
    rcases List.mem_cons.1 hx with rfl | hx
    ·exact nl_word (nl_opTab _ (List.mem_of_getElem? hw))
    ·exact nl_opArgs hws x hx
   ·cases h
  ·cases h
 ·cases h
theorem nl_arg {s : St} {x : Ar} {t : Bs} (h : argT s x = some t) : NoNL t := by
 cases x <;> simp only [argT] at h
 ·obtain ⟨h1,h2,rfl⟩ := numT_some h;exact nl_itoa _
 ·obtain ⟨h1,h2,rfl⟩ := numT_some h;exact nl_itoa _
 ·obtain ⟨h1,h2,rfl⟩ := numT_some h;exact nl_itoa _
 ·split at h
  ·cases h;exact nl_placed _
  ·cases h
 ·unfold kindT at h
  split at h
  ·cases h;exact nl_word (by decide)
  ·split at h
   ·cases h;exact nl_word (by decide)
   ·split at h
    ·cases h;exact nl_word (by decide)
    ·cases h
 ·unfold opsT at h
  split at h
  ·obtain ⟨ts,h1,rfl⟩ := Option.map_eq_some_iff.1 h
   refine nl_joinS _ fun w hw => ?_
   obtain ⟨o,_,ho⟩ := mapM_mem h1 w hw
   exact nl_op ho
  ·cases h
theorem nl_st {s : St} {t : Bs} (h : stT s = some t) : NoNL t := by
 unfold stT at h
 split at h
 ·split at h
  ·rename_i w r hw
   split at h
   ·obtain ⟨ws,hws,hj⟩ := Option.map_eq_some_iff.1 h
    subst hj
    refine nl_joinW _ fun x hx => ?_
    rcases List.mem_cons.1 hx with rfl | hx
    ·exact nl_word (nl_stepTab _ (List.mem_of_getElem? hw))
    ·obtain ⟨y,_,hy⟩ := mapM_mem hws x hx
     exact nl_arg hy
   ·cases h
  ·cases h
 ·cases h
theorem splitL_app {a : Bs} (h : NoNL a) (b : Bs) : splitL (a ++ 10 :: b) = a :: splitL b := by
 induction a with
 | nil => simp [splitL]
 | cons c a ih =>
  have hc := h c (by simp)
  rw [List.cons_append,splitL,if_neg hc,ih fun d hd => h d (by simp [hd])]
theorem lexG_field {w : Bs} {n : Int} {t : Bs} (hw : w.all small = true) (hw2 : w ≠ []) (h : numT n = some t) : LexG (w ++ 32 :: t) [.name w,.num n] := by
 obtain ⟨h1,h2,rfl⟩ := numT_some h
 intro r hr
 rw [List.append_assoc,List.cons_append,lexW_word hw hw2 _ (sep_cons _),lex_blank (by decide),(lexW_num h1 h2).g r hr]
 cases lex r with
 | none => rfl
 | some l => rfl
theorem LexG.more {a b : Bs} {ts us : List Tok} (h : LexG a ts) (g : LexG b us) : LexG (a ++ 32 :: b) (ts ++ us) := by
 intro r hr
 rw [List.append_assoc,List.cons_append,h _ (sep_cons _),lex_blank (by decide),g r hr]
 cases lex r with
 | none => rfl
 | some l => simp
theorem rules_some {r : Ru} {t : Bs} (h : rulesT r = some t) : ∃ t1 t2 t3 t4 t5 t6,numT r.nodes = some t1 ∧ numT r.clients = some t2 ∧ numT r.queue = some t3 ∧ numT r.ring = some t4 ∧ numT r.window = some t5 ∧ numT r.lease = some t6 ∧
  t = w_world ++ 32 :: (w_nodes ++ 32 :: t1) ++ 32 :: (w_clients ++ 32 :: t2) ++ 32 :: (w_queue ++ 32 :: t3) ++ 32 :: (w_ring ++ 32 :: t4) ++ 32 :: (w_window ++ 32 :: t5) ++ 32 :: (w_lease ++ 32 :: t6) := by
 unfold rulesT at h
 cases e1 : numT r.nodes with
 | none => simp [e1] at h
 | some t1 =>
 cases e2 : numT r.clients with
 | none => simp [e1,e2] at h
 | some t2 =>
 cases e3 : numT r.queue with
 | none => simp [e1,e2,e3] at h
 | some t3 =>
 cases e4 : numT r.ring with
 | none => simp [e1,e2,e3,e4] at h
 | some t4 =>
 cases e5 : numT r.window with
 | none => simp [e1,e2,e3,e4,e5] at h
 | some t5 =>
 cases e6 : numT r.lease with
 | none => simp [e1,e2,e3,e4,e5,e6] at h
 | some t6 =>
 refine ⟨t1,t2,t3,t4,t5,t6,rfl,rfl,rfl,rfl,rfl,rfl,?_⟩
 simp only [List.mapM_cons,List.mapM_nil,e1,e2,e3,e4,e5,e6,Option.map_some,Option.bind_eq_bind,Option.bind_some,Option.pure_def,Option.some.injEq] at h
 rw [← h]
 simp
theorem rules_read {r : Ru} {t : Bs} (h : rulesT r = some t) : NoNL t ∧ ∃ u us,LexG t (u :: us) ∧ pRules (u :: us) = some r := by
 obtain ⟨t1,t2,t3,t4,t5,t6,e1,e2,e3,e4,e5,e6,rfl⟩ := rules_some h
 have nn : ∀ {n : Int} {t : Bs},numT n = some t → NoNL t := fun e => by obtain ⟨_,_,rfl⟩ := numT_some e;exact nl_itoa _
 refine ⟨?_,.name w_world,[.name w_nodes,.num r.nodes,.name w_clients,.num r.clients,.name w_queue,.num r.queue,.name w_ring,.num r.ring,.name w_window,.num r.window,.name w_lease,.num r.lease],((((((lexW_word (w := w_world) (by decide) (by decide)).more (lexG_field (w := w_nodes) (by decide) (by decide) e1)).more (lexG_field (w := w_clients) (by decide) (by decide) e2)).more (lexG_field (w := w_queue) (by decide) (by decide) e3)).more (lexG_field (w := w_ring) (by decide) (by decide) e4)).more (lexG_field (w := w_window) (by decide) (by decide) e5)).more (lexG_field (w := w_lease) (by decide) (by decide) e6),?_⟩
 ·have k : ∀ {w : Bs} {n : Int} {t : Bs},w.all small = true → numT n = some t → NoNL (32 :: (w ++ 32 :: t)) := fun hw e => .cons (by decide) ((nl_word hw).append (.cons (by decide) (nn e)))
  exact ((((((nl_word (w := w_world) (by decide)).append (k (by decide) e1)).append (k (by decide) e2)).append (k (by decide) e3)).append (k (by decide) e4)).append (k (by decide) e5)).append (k (by decide) e6)
 ·have q : ∀ (s : Bs) (r : List Tok),pIs s (.name s :: r) = some r := fun s r => by simp [pIs]
  simp [pRules,q,ruleWords,pFields,pField,pNum]
theorem lines_read (r : Ru) : ∀ (l : List St) (ts : List Bs) (row : Nat) (acc : List St),l.mapM stT = some ts → acc.length + l.length ≤ 400 →
  pLines (splitL (ts.map fun t => t ++ [10]).flatten) row (some r) acc = .ok r (acc ++ l)
 | [],ts,row,acc,h,_ => by
  cases h
  show pLines [[]] row (some r) acc = _
  unfold pLines
  rw [lex_nil]
  show pLines [] (row + 1) (some r) acc = _
  unfold pLines
  simp
 | s :: l,ts,row,acc,h,hl => by
  rw [List.mapM_cons] at h
  cases hs : stT s with
  | none => rw [hs] at h;cases h
  | some t =>
   rw [hs] at h
   cases hm : l.mapM stT with
   | none => rw [hm] at h;cases h
   | some ts2 =>
    rw [hm] at h
    cases h
    obtain ⟨us,g1,g2,g3⟩ := st_read hs
    rw [List.map_cons,List.flatten_cons,List.append_assoc,List.cons_append,List.nil_append,splitL_app (nl_st hs)]
    have hlex : lex t = some us := by
     have := g1 [] sep_nil
     rw [List.append_nil] at this
     rw [this];simp
    unfold pLines
    rw [hlex]
    cases us with
    | nil => exact absurd rfl g2
    | cons u us =>
     simp only
     rw [g3]
     simp only
     rw [if_neg (by simp at hl;omega),lines_read r l ts2 (row + 1) (acc ++ [s]) hm (by simp at hl ⊢;omega)]
     simp
theorem print_read {r : Ru} {l : List St} {t : Bs} (h : print r l = .ok t) : parse t = .ok r l := by
 unfold print at h
 split at h
 ·cases h
 ·rename_i hl
  split at h
  ·cases h
  ·rename_i t' ht
   split at h
   ·cases h
   ·rename_i htl
    cases h
    unfold parse
    rw [if_neg htl]
    unfold printT at ht
    split at ht
    ·rename_i a b ha hb
     cases ht
     obtain ⟨n1,u,us,g1,g2⟩ := rules_read ha
     rw [splitL_app n1]
     have hlex : lex a = some (u :: us) := by
      have := g1 [] sep_nil
      rw [List.append_nil] at this
      rw [this];simp
     unfold pLines
     rw [hlex]
     simp only
     rw [g2]
     simp only
     rw [lines_read r l b 1 [] hb (by simpa using Nat.le_of_not_lt hl)]
     simp
    ·cases ht
end Go.Rn
section
set_option maxRecDepth 100000
namespace Go.Proofs.YtnoghchcboiojaaGreatDoor
open Go.Ev
open Go.Rn (Bs Ru St)
variable {p : Bool} {F : Nat} {h : H}
def mkOp : Rn.Op := { kind := -7 }
def OvM (h : H) (ov : Value) (ops : List Rn.Op) : Prop := ∃ b c cs,ov = .slice (some ⟨b,0,none⟩) ops.length c ∧ ops.length + 1 ≤ c ∧ cel h b = some cs ∧ (∀ (i : Nat) (o : Rn.Op),(ops ++ [mkOp])[i]? = some o → i * 5 + 5 ≤ cs.length ∧ (cs.drop (i * 5)).take 5 = opC o)
def StM (h : H) (cs : List Value) (s : St) : Prop := ∃ ov,cs = stC s ov ∧ OvM h ov s.ops
def mkSt : List Value := [vi (-7),vi 0,vi 0,vi 0,vs [],.slice none 0 0]
def RM (h : H) (cs : List Value) : Option St → Prop
 | some s => StM h cs s
 | none => cs = mkSt
def CopM (h : H) (v : Value) (l : List St) : Prop := ∃ b c cs,v = .slice (some ⟨b,0,none⟩) l.length c ∧ l.length + 1 ≤ c ∧ cel h b = some cs ∧ (∀ (i : Nat) (x : Option St),(l.map some ++ [none])[i]? = some x → i * 6 + 6 ≤ cs.length ∧ RM h ((cs.drop (i * 6)).take 6) x)
theorem OvM.kept {h g : H} {ov : Value} {ops : List Rn.Op} (q : OvM h ov ops) (k : KeptC h g []) : OvM g ov ops := by
 obtain ⟨b,c,cs,e1,e2,e3,e4⟩ := q
 exact ⟨b,c,cs,e1,e2,(k.2 b (cel_lt e3) (by simp)).trans e3,e4⟩
theorem RM.kept {h g : H} {cs : List Value} {x : Option St} (q : RM h cs x) (k : KeptC h g []) : RM g cs x := by
 cases x with
 | none => exact q
 | some s =>
  obtain ⟨ov,e,q⟩ := q
  exact ⟨ov,e,q.kept k⟩
theorem CopM.kept {h g : H} {v : Value} {l : List St} (q : CopM h v l) (k : KeptC h g []) : CopM g v l := by
 obtain ⟨b,c,cs,e1,e2,e3,e4⟩ := q
 exact ⟨b,c,cs,e1,e2,(k.2 b (cel_lt e3) (by simp)).trans e3,fun i x hx => ⟨(e4 i x hx).1,(e4 i x hx).2.kept k⟩⟩
theorem OvM.sl {h : H} {ov : Value} {ops : List Rn.Op} (q : OvM h ov ops) : SlR (fun _ => True) 5 OpR h ov ops := by
 obtain ⟨b,c,cs,e1,e2,e3,e4⟩ := q
 refine .inr ⟨b,0,c,cs,e1,by omega,trivial,e3,fun i o ho => ?_⟩
 have := e4 i o (by rw [List.getElem?_append_left (List.getElem?_eq_some_iff.1 ho).1];exact ho)
 rw [Nat.zero_add]
 exact this
theorem CopM.sl {h : H} {v : Value} {l : List St} (q : CopM h v l) : SlR (fun _ => True) 6 StE h v l := by
 obtain ⟨b,c,cs,e1,e2,e3,e4⟩ := q
 refine .inr ⟨b,0,c,cs,e1,by omega,trivial,e3,fun i s hs => ?_⟩
 obtain ⟨q1,ov,q2,q3⟩ := e4 i (some s) (by rw [List.getElem?_append_left (by simp;exact (List.getElem?_eq_some_iff.1 hs).1)];simp [hs])
 rw [Nat.zero_add]
 exact ⟨q1,ov,_,q2,q3.sl⟩
theorem opC_one (o : Rn.Op) : ∀ y ∈ opC o,oneCell y = true := by
 intro y hy
 simp only [opC,List.mem_cons,List.not_mem_nil,or_false] at hy
 rcases hy with rfl | rfl | rfl | rfl | rfl <;> rfl
theorem new_one {new : List Value} {ops : List Rn.Op} (e2 : new.length = ops.length * 5) (e3 : ∀ (i : Nat) (x : Rn.Op),ops[i]? = some x → (new.drop (i * 5)).take 5 = opC x) : ∀ y ∈ new,oneCell y = true := by
 intro y hy
 obtain ⟨j,hj⟩ := List.mem_iff_getElem?.1 hy
 have hjl := (List.getElem?_eq_some_iff.1 hj).1
 obtain ⟨x,hx⟩ : ∃ x,ops[j / 5]? = some x := ⟨_,List.getElem?_eq_getElem (by omega)⟩
 have e := e3 _ _ hx
 refine opC_one x y ?_
 rw [← e]
 refine List.mem_iff_getElem?.2 ⟨j % 5,?_⟩
 rw [List.getElem?_take,if_pos (Nat.mod_lt _ (by decide)),List.getElem?_drop,show j / 5 * 5 + j % 5 = j by omega]
 exact hj
theorem marked {g : H} {ok : Nat → Prop} {ov : Value} {ops : List Rn.Op} (s : SlR ok 5 OpR g ov ops) (hl : ops.length * 56 ≤ reachBytes) :
  ∃ new v1 g1 g2 b,srcOf (Ev.newRow g [] 5 []) 5 ov = some (ops.length,new) ∧ appendTo (Ev.newRow g [] 5 []) 5 56 (.slice (some ⟨g.size,0,none⟩) 0 0) ops.length new = some (v1,g1) ∧
   appendTo (Ev.newRow g1 (opC mkOp) 5 []) 5 56 v1 1 (opC mkOp) = some (.slice (some ⟨b,0,none⟩) (ops.length + 1) (ops.length + 1),g2) ∧ isText v1 = false ∧ (∀ y ∈ new,oneCell y = true) ∧ Kept g g2 [] ∧ g.size ≤ b ∧ OvM g2 (.slice (some ⟨b,0,none⟩) ops.length (ops.length + 1)) ops := by
 have k0 := rowKept g [] 5 []
 have s0 := slr_kept s k0 fun _ _ _ q => q
 obtain ⟨new,e1,e2,e3⟩ := s0.src (by decide) fun cs x _ q => by rw [show cs = opC x from q];rfl
 have B0 : Bld (fun b => g.size ≤ b) 5 OpR (Ev.newRow g [] 5 []) (.slice (some ⟨g.size,0,none⟩) 0 0) [] := .inr ⟨g.size,[],[],rfl,⟨Nat.le_refl _,by simp⟩,by simp,rfl,fun i x hx => by simp at hx⟩
 unfold reachBytes at hl
 obtain ⟨v1,g1,a1,a2,a3,_,a4,_⟩ := B0.appN (ys := ops) (bytes := 56) (new := new) e2 (by simp;omega) (by simp) (fun _ _ _ _ _ q => q) fun _ _ i y hy => e3 i y hy
 have z0 : (Ev.newRow g [] 5 []).size = g.size + 1 := by simp
 rw [List.nil_append] at a2
 obtain ⟨v2,g2,c1,c2,c3,c4⟩ := bld_put1 a2 (bytes := 56) (opC mkOp) (x := mkOp) rfl (by omega) (by have := a3.1;omega) (fun _ _ _ _ _ _ q => q) fun _ _ => rfl
 have k1 : Kept g g1 [] := ⟨by have := a3.1;omega,fun b hb _ => (a4 b (by omega) (fun o n c e => by injection e with e;injection e with e;injection e with e;omega)).trans (k0.get hb (by simp))⟩
 have k2 : Kept g g2 [] := ⟨Nat.le_trans k1.1 c3.1,fun b hb _ => (c4 b (Nat.lt_of_lt_of_le hb k1.1) (by omega)).trans (k1.get hb (by simp))⟩
 have ht : isText v1 = false := a2.sl.ne_text
 rcases c2 with ⟨_,e⟩ | ⟨b,cs,an,e,hk,hg,hcl,hi⟩
 ·simp at e
 ·rw [List.length_append,List.length_singleton] at e
  subst e
  refine ⟨new,v1,g1,g2,b,e1,a1,c1,ht,new_one e2 e3,k2,hk.1,b,_,cs,rfl,Nat.le_refl _,cel_of hg,fun i o ho => ⟨?_,hi i o ho⟩⟩
  have := (List.getElem?_eq_some_iff.1 ho).1
  have h5 : (i + 1) * 5 ≤ (ops ++ [mkOp]).length * 5 := Nat.mul_le_mul_right _ this
  omega
set_option maxHeartbeats 1000000 in
theorem copied_spec {ok : Nat → Prop} {v : Value} {l : List St} (hS : SlR ok 6 StE h v l) (ho : ∀ s ∈ l,s.ops.length * 56 ≤ reachBytes) (hl : l.length * 72 ≤ reachBytes) (hF : l.length < F) : Ans (cf p (F + 1) 13 [v] h) fun w h' => Kept h h' [] ∧ CopM h' w l := by
 rw [cf_step (a := a13) rfl rfl (by simp [a13])]
 have lx := hS.len
 unfold reachBytes at hl
 simp (disch := first|omega|(simp only [zS];first|done|omega)) [bB,a13,r13_0,r13_1,r13_2]
 refine loop_rule (fun m e g => ∃ (i : Nat) (lv : Value),i ≤ l.length ∧ m = l.length - i ∧ Kept h g [] ∧ e = [(0,v),(3,lv),(4,vi i)] ∧ Bld (fun b => h.size ≤ b) 6 RM g lv ((l.take i).map some))
  ?_ F (l.length - 0) _ h (by omega) ⟨0,_,by omega,rfl,Kept.refl _ _,rfl,Bld.nil _ _ _ _⟩
 rintro m e g again ⟨i,lv,hi,rfl,hk,rfl,hB⟩ hag
 by_cases hlt : i < l.length
 ·obtain ⟨x,hxi⟩ : ∃ x,l[i]? = some x := ⟨_,List.getElem?_eq_getElem hlt⟩
  obtain ⟨b,o,c,cs,es,lv1,an,rfl,_,hg0,hl1,ov,okx,hr,hox⟩ := hS.at' hxi
  have hg := (hk.get (lt_of_get hg0) (by simp)).trans hg0
  have hlt' : (i : Int) < l.length := by omega
  have wi : IntKind.i64.wrap ((i : Int) + 1) = (i : Int) + 1 := wrap_in (by omega) (by omega)
  have one := hox.one
  have ol := hox.len
  have hx56 := ho x (List.mem_of_getElem? hxi)
  have kb := rowKept g (stC x ov) 0 []
  have hb : hget (Ev.newRow g (stC x ov) 0 []) g.size = some (.cells (stC x ov) 0 true []) := by simp
  have z1 : (Ev.newRow g (stC x ov) 0 []).size = g.size + 1 := by simp
  have kk := hk.trans kb
  have hox1 := slr_kept hox kk fun _ _ _ q => q
  have hB1 := hB.kept kb (by simp) fun cs y _ q => RM.kept q kb.c
  have hlen6 : (stC x ov).length = 6 := rfl
  obtain ⟨new,v1,g1,g2,bo,a1,a2,a3,a4,a45,a5,abo,a6⟩ := marked hox1 hx56
  have hb2 := (a5.get (b := g.size) (by omega) (by simp)).trans hb
  have one2 := one
  unfold oneCell at one2 a45
  have a46 := eq_true a45
  have ntx := hox.ne_text
  unfold isText at ntx a4
  have eqz : Ev.newRow g [vi x.kind,vi x.a,vi x.b,vi x.c,vs x.place,ov] 0 [] = Ev.newRow g (stC x ov) 0 [] := rfl
  have hbs := lt_of_get hb2
  simp (disch := first|omega|(simp only [zS];first|done|omega)) [bB,l13_9,r13_3,lx,hlt',r13_4,hg,hl1,hr,stC,one2,r13_5,ol]
  rw [eqz]
  generalize Ev.newRow g (stC x ov) 0 [] = g0 at *
  have hb' := hb
  simp only [stC] at hb' hb2
  have eqm : ∀ g,Ev.newRow g [vi (-7),.string { data := #[] },.string { data := #[] },vi 0,vi 0] 5 [] = Ev.newRow g (opC mkOp) 5 [] := fun g => rfl
  have eqo : opC mkOp = [vi (-7),.string { data := #[] },.string { data := #[] },vi 0,vi 0] := rfl
  rw [eqo] at a3
  simp (disch := first|omega|(simp only [zS];first|done|omega)) [bB,r13_6,hb',a1,a2,a3,a4,a46,ntx]
  have hlt5 : x.ops.length ≤ x.ops.length + 1 := by omega
  simp (disch := first|omega|(simp only [zS];first|done|omega)) [bB,srcOf,isText,a3,a4,hb2]
  have k3 : Kept g (g2.setIfInBounds g.size (.cells (stC x (.slice (some ⟨bo,0,none⟩) x.ops.length (x.ops.length + 1))) 0 true [])) [] := kept_set (kb.trans a5) (Nat.le_refl _)
  have b3 : hget (g2.setIfInBounds g.size (.cells (stC x (.slice (some ⟨bo,0,none⟩) x.ops.length (x.ops.length + 1))) 0 true [])) g.size = some (.cells (stC x (.slice (some ⟨bo,0,none⟩) x.ops.length (x.ops.length + 1))) 0 true []) := by simp [hbs]
  have a7 : OvM (g2.setIfInBounds g.size (.cells (stC x (.slice (some ⟨bo,0,none⟩) x.ops.length (x.ops.length + 1))) 0 true [])) (.slice (some ⟨bo,0,none⟩) x.ops.length (x.ops.length + 1)) x.ops := by
   obtain ⟨b',c',cs',e1,e2,e3,e4⟩ := a6
   injection e1 with e1 _ e1'
   injection e1 with e1
   injection e1 with e1
   subst e1
   refine ⟨bo,_,cs',rfl,by omega,?_,e4⟩
   rw [← e3]
   exact cel_congr (set_other (by omega))
  have eqs : ∀ g4 : H,g4.setIfInBounds g.size (.cells [vi x.kind,vi x.a,vi x.b,vi x.c,vs x.place,.slice (some ⟨bo,0,none⟩) x.ops.length (x.ops.length + 1)] 0 true []) = g4.setIfInBounds g.size (.cells (stC x (.slice (some ⟨bo,0,none⟩) x.ops.length (x.ops.length + 1))) 0 true []) := fun _ => rfl
  rw [eqs]
  have hB3 := hB.kept k3 (by simp) fun cs y _ q => RM.kept q k3.c
  generalize g2.setIfInBounds g.size (.cells (stC x (.slice (some ⟨bo,0,none⟩) x.ops.length (x.ops.length + 1))) 0 true []) = g3 at *
  have kk3 := hk.trans k3
  have hs3 := kk3.1
  obtain ⟨v5,g5,c1,c2,c3,c4⟩ := bld_put1 hB3 (bytes := 72) (stC x (.slice (some ⟨bo,0,none⟩) x.ops.length (x.ops.length + 1))) (x := some x) rfl (by simp;omega) (by omega) (fun h1 h2 k cs y _ q => RM.kept q k) fun h' k => ⟨_,rfl,a7.kept k⟩
  have k5 : Kept h g5 [] := ⟨Nat.le_trans hs3 c3.1,fun b hb _ => (c4 b (Nat.lt_of_lt_of_le hb hs3) (by omega)).trans (kk3.2 b hb (by simp))⟩
  simp only [stC] at b3 c1
  simp (disch := first|omega|(simp only [zS];first|done|omega)) [bB,r13_7,b3,srcOf,isText,c1,r13_8,wi]
  exact hag (l.length - (i + 1)) [(0,_),(3,v5),(4,vi ((i : Int) + 1))] _ (by omega) ⟨i + 1,v5,by omega,rfl,k5,rfl,by rw [List.take_add_one,hxi];simpa using c2⟩
 ·have : i = l.length := by omega
  subst this
  rw [List.take_length] at hB
  have ln := hB.sl.len
  obtain ⟨v5,g5,c1,c2,c3,c4⟩ := bld_put1 hB (bytes := 72) mkSt (x := none) rfl (by simp;omega) (by have := hk.1;omega) (fun h1 h2 k cs y _ q => RM.kept q k) fun h' k => rfl
  have k5 : Kept h g5 [] := ⟨Nat.le_trans hk.1 c3.1,fun b hb _ => (c4 b (Nat.lt_of_lt_of_le hb hk.1) (by omega)).trans (hk.2 b hb (by simp))⟩
  have ntx := hB.sl.ne_text
  unfold isText at ntx
  rcases c2 with ⟨_,e⟩ | ⟨b,cs,an,e,hk',hg,hcl,hi'⟩
  ·simp at e
  ·rw [List.length_append,List.length_map,List.length_singleton] at e
   subst e
   rw [List.length_map] at ln
   have eqk : mkSt = [vi (-7),vi 0,vi 0,vi 0,.string { data := #[] },.slice none 0 0] := rfl
   rw [eqk] at c1
   simp (disch := first|omega|(simp only [zS];first|done|omega)) [bB,l13_9,r13_3,lx,r13_10,ln,r13_11,srcOf,isText,c1,ntx,r13_12]
   refine Ans.of ⟨k5,b,_,cs,rfl,Nat.le_refl _,cel_of hg,fun i x hx => ⟨?_,hi' i x hx⟩⟩
   have := (List.getElem?_eq_some_iff.1 hx).1
   have h5 : (i + 1) * 6 ≤ (l.map some ++ [none]).length * 6 := Nat.mul_le_mul_right _ this
   omega
end Go.Proofs.YtnoghchcboiojaaGreatDoor
end
section
set_option maxRecDepth 100000
namespace Go.Proofs.YtnoghchcboiojaaGreatDoor
open Go.Ev
open Go.Rn (Bs Tok Ru St PRes)
variable {p : Bool} {F : Nat} {h : H}
theorem law6 (hG : Glo h) (hR : GloR h) (h14 : 14 ≤ h.size) (hF : 4398046511200 < F) (r : Ru) (hr : RuN r) (v : Value) (l : List St) (hI : InS h v l) : Ans (cf true (F + 12) 6 [.agg ⟨ruC r⟩,v] h) fun v _ => v = .bool true := by
 rw [cf_step (a := a6) rfl rfl (by simp [a6])]
 have q1 : F + 2 + 9 = F + 11 := by omega
 have q3 : F + 9 + 2 = F + 11 := by omega
 have q4 : F + 10 + 1 = F + 11 := by omega
 have q6 : F - 1 + 12 = F + 11 := by omega
 have hl := hI.len
 have ho : ∀ s ∈ l,StN s ∧ s.ops.length < 4398046511104 := fun s hs => ⟨(hI.ok s hs).1,by have := (hI.ok s hs).2;unfold reachBytes at this;omega⟩
 unfold reachBytes at hl
 have e1 := fun (h1 : H) (k : Kept h h1 []) (t : Bs) => parse_spec (p := true) (h := h1) (F := F + 2) t (hG.kept0 k) (Nat.le_trans h14 k.1) (by omega)
 have e3 := fun (h1 : H) (k : Kept h h1 []) => fixed_spec (h := h1) (F := F) (hG.kept0 k) (Nat.le_trans h14 k.1) hF
 have e4 := fun (h1 : H) (ok ok' : Nat → Prop) (v w : Value) (xs ys : List St) (hx : SlR ok 6 StE h1 v xs) (hy : SlR ok' 6 StE h1 w ys) (hl : xs.length < 4398046511104) (ho : ∀ s ∈ xs,s.ops.length < 4398046511104) =>
  steps_eq (p := true) (h := h1) (F := F + 9) hx hy (by omega) (by omega) (fun s hs => by have := ho s hs;exact ⟨by omega,by omega⟩)
 have e5 := fun (h1 : H) (k : Kept h h1 []) (ok : Nat → Prop) (v : Value) (l : List St) (r : Ru) => print_call (F := F + 10) (ok := ok) (v := v) (l := l) (r := r) (hG.kept0 k)
 have e6 := fun (h1 : H) (k : Kept h h1 []) => rprint_w (p := true) (F := F - 1) (h := h1) (v := v) r hr l (slr_kept hI.sl k fun _ _ _ q => q.kept k) (by omega) ho (hR.kept k) (by omega)
 have e7 := fun (h1 : H) (k : Kept h h1 []) => copied_spec (p := true) (F := F + 10) (h := h1) (v := v) (l := l) (slr_kept hI.sl k fun _ _ _ q => q.kept k) (fun s hs => (hI.ok s hs).2) hI.len (by omega)
 rw [q3] at e4
 rw [q1] at e1
 rw [q4] at e5 e7
 rw [q6] at e6
 generalize cf true (F + 11) = c at *
 have hre := ru_eq r
 have hpr := fun t' (hh : Rn.print r l = .ok t') => Rn.print_read hh
 have hex : ∃ a b c d e f : Int,ruC r = [vi a,vi b,vi c,vi d,vi e,vi f] := ⟨_,_,_,_,_,_,rfl⟩
 have e5 := fun h1 k ok v l => e5 h1 k ok v l r
 generalize hru : ruC r = R at *
 obtain ⟨na,nb,nc,nd,ne,nf,rfl⟩ := hex
 have one := hI.sl.one
 have k1 := rowKept h [vi na,vi nb,vi nc,vi nd,vi ne,vi nf] 0 []
 have hA : hget (Ev.newRow h [vi na,vi nb,vi nc,vi nd,vi ne,vi nf] 0 []) h.size = some (.cells [vi na,vi nb,vi nc,vi nd,vi ne,vi nf] 0 true []) := by simp
 have z1 : (Ev.newRow h [vi na,vi nb,vi nc,vi nd,vi ne,vi nf] 0 []).size = h.size + 1 := by simp
 simp (disch := first|omega|(simp only [zS];first|done|omega)) [bB,a6,r6_0,r6_1]
 generalize Ev.newRow h [vi na,vi nb,vi nc,vi nd,vi ne,vi nf] 0 [] = g1 at *
 refine Ans.next (e3 _ k1) ?_
 rintro w g2 ⟨k2,rfl⟩
 have k02 := k1.trans k2
 have hA2 := (k2.get (b := h.size) (by omega) (by simp)).trans hA
 simp (disch := first|omega|(simp only [zS];first|done|omega)) [bB,r6_2,aUn,r6_4,hA2]
 refine Ans.next (e6 _ k02) ?_
 rintro w g3 ⟨k3,rfl⟩
 have k03 := k02.trans k3
 have hA3 := (k3.get (b := h.size) (by have := k2.1;omega) (by simp)).trans hA2
 generalize hzz : Rn.print r l = z at *
 obtain ⟨tt,cc,hz,hz2⟩ := printV_code z
 rw [hz]
 simp (disch := first|omega|(simp only [zS];first|done|omega)) [bB,d6_5,hA3]
 refine Ans.nextCD (e7 _ k03) ?_
 rintro w g4 ⟨k4,hC⟩
 have k04 := k03.trans k4
 have hA4 := (k4.get (b := h.size) (by have := k3.1;have := k2.1;omega) (by simp)).trans hA3
 have e5a := e5 _ k04 _ _ _ hC.sl
 rw [hzz,hz] at e5a
 have hw := hC.sl.one
 have hnp := one_np hw
 simp (disch := first|omega|(simp only [zS];first|done|omega)) [bB,hnp,e5a,hA3,hA4,dk_go,chks_nil,chks_cons,chkA_nil,chkA_cons,chk1_no,chk1_yes,chkV_some,hAt_eq,hOf_some,hOf_none,sameV,sameL,sameCell,blanks]
 cases z with
 | long =>
  obtain ⟨rfl,rfl⟩ := hz2
  simp (disch := first|omega|(simp only [zS];first|done|omega)) [bB,r6_6,r6_7,lit_zero]
  exact Ans.of rfl
 | bad =>
  obtain ⟨rfl,rfl⟩ := hz2
  simp (disch := first|omega|(simp only [zS];first|done|omega)) [bB,r6_6,r6_7,lit_zero]
  exact Ans.of rfl
 | ok x =>
  obtain ⟨rfl,rfl⟩ := hz2
  have e1a := e1 _ k04 tt
  rw [hpr tt rfl] at e1a
  simp (disch := first|omega|(simp only [zS];first|done|omega)) [bB,r6_6,r6_8,r6_10]
  refine Ans.next e1a ?_
  rintro w5 g5 ⟨k5,sv',xs',hxx,hxl',rfl,hS5⟩
  rw [hru]
  have k05 := k04.trans k5
  have k6 := rowKept g5 [vi na,vi nb,vi nc,vi nd,vi ne,vi nf] 0 []
  have k06 := k05.trans k6
  have hA6 := ((k5.trans k6).get (b := h.size) (by have := k4.1;have := k3.1;have := k2.1;omega) (by simp)).trans hA4
  have hB : hget (Ev.newRow g5 [vi na,vi nb,vi nc,vi nd,vi ne,vi nf] 0 []) g5.size = some (.cells [vi na,vi nb,vi nc,vi nd,vi ne,vi nf] 0 true []) := by simp
  have hS6 := hS5.kept k6 (by simp)
  have s2' := hS6.steps
  rw [← hxx] at s2'
  have e7 := e4 _ _ _ _ _ _ _ (slr_kept hI.sl k06 fun _ _ _ q => q.kept k06) s2' (by omega) fun s hs => (ho s hs).2
  simp only [decide_true] at e7
  simp (disch := first|omega|(simp only [zS];first|done|omega)) [bB]
  generalize Ev.newRow g5 [vi na,vi nb,vi nc,vi nd,vi ne,vi nf] 0 [] = g6 at *
  simp (disch := first|omega|(simp only [zS];first|done|omega)) [bB,r6_11,hA6,hB,hre,e7]
  exact Ans.of rfl
end Go.Proofs.YtnoghchcboiojaaGreatDoor
end
