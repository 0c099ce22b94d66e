/- Texts of the proofs over heraldlaw18, put together by a program (merge18c.py): Rp2 Rp3 Rp7 Sy1. -/
import Derived.Test.YtnoghchcboiojaaGreatDoorC0
import Derived.Test.YtnoghchcboiojaaGreatDoorD12
set_option linter.unusedVariables false
set_option linter.unusedSimpArgs false
namespace Go.Rn
def LexG (w : Bs) (ts : List Tok) : Prop := ∀ r,Sep r → lex (w ++ r) = (lex r).map fun l => ts ++ l
theorem LexW.g {w : Bs} {t : Tok} (h : LexW w t) : LexG w [t] := h
inductive LexL : List Bs → List Tok → Prop
 | nil : LexL [] []
 | cons {w : Bs} {ts us : List Tok} {ws : List Bs} (h : LexG w ts) (t : LexL ws us) : LexL (w :: ws) (ts ++ us)
theorem LexL.append {ws vs : List Bs} {ts us : List Tok} (h : LexL ws ts) (g : LexL vs us) : LexL (ws ++ vs) (ts ++ us) := by
 induction h with
 | nil => exact g
 | cons h _ ih => rw [List.cons_append,List.append_assoc];exact .cons h ih
theorem LexL.join {ws : List Bs} {us : List Tok} (h : LexL ws us) : ∀ {w : Bs} {ts : List Tok},LexG w ts → LexG (joinW (w :: ws)) (ts ++ us) := by
 induction h with
 | nil => intro w ts hw;simpa [joinW] using hw
 | cons h t ih =>
  intro w ts hw r hr
  rename_i w2 ts2 us2 ws2
  show lex ((w ++ 32 :: joinW (w2 :: ws2)) ++ r) = _
  rw [List.append_assoc,List.cons_append,hw _ (sep_cons _),lex_blank (by decide),ih h r hr]
  cases lex r with
  | none => rfl
  | some l => simp
def Rest : List Tok → Prop
 | [] => True
 | .semi :: _ => True
 | _ => False
def placeK (s : Bs) : Tok := if s.head? = some 47 ∧ s.all bare = true then .place s else .quoted s
theorem pText_place (s : Bs) (h : s.length ≤ 256) (r : List Tok) : pText true (placeK s :: r) = some (s,r) := by
 unfold placeK
 split
 ·simp [pText,h]
 ·simp [pText,h]
def flagK (n : Int) : List Tok := if n = 1 then [.name w_brief] else if n = 2 then [.name w_counted] else if n = 3 then [.name w_brief,.name w_counted] else []
def opArgK (o : Op) : OA → List Tok
 | .p => [placeK o.place]
 | .d => [.quoted o.data]
 | .v => [.num o.version]
 | .f => flagK o.flags
theorem lexW_word {w : Bs} (h : w.all small = true) (h2 : w ≠ []) : LexG w [.name w] := by
 cases w with
 | nil => exact absurd rfl h2
 | cons c w => exact (lexW_name h).g
theorem opArg_lex {o : Op} {a : OA} {ws : List Bs} (h : opArgT o a = some ws) : LexL ws (opArgK o a) := by
 cases a with
 | p =>
  simp only [opArgT] at h
  split at h
  ·cases h;exact .cons (lexW_placed _).g .nil
  ·cases h
 | d =>
  simp only [opArgT] at h
  split at h
  ·cases h;exact .cons (lexW_quote _).g .nil
  ·cases h
 | v =>
  simp only [opArgT] at h
  obtain ⟨t,ht,hf⟩ := Option.map_eq_some_iff.1 h
  obtain ⟨h1,h2,rfl⟩ := numT_some ht
  cases hf
  exact .cons (lexW_num h1 h2).g .nil
 | f =>
  simp only [opArgT] at h
  have hb : LexG w_brief [.name w_brief] := lexW_word (by decide) (by decide)
  have hc : LexG w_counted [.name w_counted] := lexW_word (by decide) (by decide)
  simp only [opArgK,flagK]
  split at h
  ·rename_i h0;cases h;rw [h0];exact .nil
  ·split at h
   ·rename_i h0;cases h;rw [h0];exact .cons hb .nil
   ·split at h
    ·rename_i h0;cases h;rw [h0];exact .cons hc .nil
    ·split at h
     ·rename_i h0;cases h;rw [h0];exact .cons hb (.cons hc .nil)
     ·cases h
def setOA (o o0 : Op) : OA → Op
 | .p => { o0 with place := o.place }
 | .d => { o0 with data := o.data }
 | .v => { o0 with version := o.version }
 | .f => { o0 with flags := o.flags }
theorem pIs_rest {r : List Tok} (h : Rest r) (w : Bs) : pIs w r = none := by
 cases r with
 | nil => rfl
 | cons t r => cases t <;> first | rfl | cases h
theorem opArg_read {o : Op} {a : OA} {ws : List Bs} (h : opArgT o a = some ws) (o0 : Op) (r : List Tok) (hr : a = .f → Rest r) : pOpArg a o0 (opArgK o a ++ r) = some (setOA o o0 a,r) := by
 cases a with
 | p =>
  simp only [opArgT] at h
  split at h
  ·rename_i hl
   simp only [opArgK,pOpArg,List.cons_append,List.nil_append]
   rw [pText_place _ hl];rfl
  ·cases h
 | d =>
  simp only [opArgT] at h
  split at h
  ·rename_i hl
   simp only [opArgK,pOpArg,List.cons_append,List.nil_append]
   simp [pText,hl,setOA]
  ·cases h
 | v =>
  simp [opArgK,pOpArg,pNum,setOA]
 | f =>
  have hR := hr rfl
  simp only [opArgT] at h
  simp only [opArgK,pOpArg,setOA]
  have h1 : ∀ (s : Bs) (q : List Tok),pIs s (.name s :: q) = some q := fun s q => by simp [pIs]
  have h2 : ∀ (q : List Tok),pIs w_brief (.name w_counted :: q) = none := fun q => by
   show (if w_counted = w_brief then some q else none) = none;rw [if_neg (by decide)]
  split at h
  ·rename_i h0;rw [h0]
   simp [flagK,pFlags,pBrief,pCounted,pIs_rest hR]
  ·split at h
   ·rename_i h0;rw [h0]
    simp [flagK,pFlags,pBrief,pCounted,pIs_rest hR,h1]
   ·split at h
    ·rename_i h0;rw [h0]
     simp [flagK,pFlags,pBrief,pCounted,pIs_rest hR,h1,h2]
    ·split at h
     ·rename_i h0;rw [h0]
      simp [flagK,pFlags,pBrief,pCounted,pIs_rest hR,h1]
     ·cases h
def lastF : List OA → Bool
 | [] => true
 | [_] => true
 | a :: l => (match a with | .f => false | _ => true) && lastF l
theorem opArgs_read {o : Op} : ∀ {l : List OA} {ws : List Bs},opArgsT o l = some ws → LexL ws (l.flatMap (opArgK o)) ∧ (lastF l = true → ∀ (o0 : Op) (r : List Tok),Rest r → pOpArgs l o0 (l.flatMap (opArgK o) ++ r) = some (l.foldl (setOA o) o0,r))
 | [],ws,h => by
  simp [opArgsT] at h;subst h
  exact ⟨.nil,fun _ o0 r _ => rfl⟩
 | a :: l,ws,h => by
  unfold opArgsT at h
  split at h
  ·rename_i x y hx hy
   cases h
   obtain ⟨g1,g2⟩ := opArgs_read hy
   refine ⟨(opArg_lex hx).append g1,fun hl o0 r hr => ?_⟩
   have hl2 : lastF l = true ∧ (a = .f → l = []) := by
    cases l with
    | nil => exact ⟨rfl,fun _ => rfl⟩
    | cons b l =>
     simp only [lastF,Bool.and_eq_true] at hl
     exact ⟨hl.2,fun he => by subst he;simp at hl⟩
   rw [List.flatMap_cons,List.append_assoc]
   unfold pOpArgs
   rw [opArg_read hx o0 _ (fun he => by rw [hl2.2 he];simpa using hr)]
   exact g2 hl2.1 _ r hr
  ·cases h
theorem op_read {o : Op} {t : Bs} (h : opT o = some t) : ∃ ts,LexG t ts ∧ ts ≠ [] ∧ ∀ r,Rest r → pOp (ts ++ r) = some (o,r) := by
 unfold opT at h
 split at h
 ·rename_i hk
  have hks : o.kind = 1 ∨ o.kind = 2 ∨ o.kind = 3 ∨ o.kind = 4 ∨ o.kind = 5 ∨ o.kind = 6 ∨ o.kind = 7 := by omega
  have main : ∀ (k : Nat) (w : Bs) (l : List OA),o.kind = k → opTab[k - 1]? = some (w,l) → w.all small = true → w ≠ [] → lastF l = true → findW w 1 opTab = some (k,l) →
    ((match opTab[o.kind.toNat - 1]? with
      | some (w,r) => if (o.data = [] ∨ OA.d ∈ r) ∧ (o.version = 0 ∨ OA.v ∈ r) ∧ (o.flags = 0 ∨ OA.f ∈ r) then (opArgsT o r).map fun l => joinW (w :: l) else none
      | none => none) = some t) → ((o.data = [] ∨ OA.d ∈ l) ∧ (o.version = 0 ∨ OA.v ∈ l) ∧ (o.flags = 0 ∨ OA.f ∈ l) → l.foldl (setOA o) { kind := k } = o) →
    ∃ ts,LexG t ts ∧ ts ≠ [] ∧ ∀ r,Rest r → pOp (ts ++ r) = some (o,r) := by
   intro k w l hk ht hw1 hw2 hl hf h hset
   rw [show o.kind.toNat = k by omega,ht] at h
   simp only at h
   split at h
   ·rename_i hz
    obtain ⟨ws,hws,hj⟩ := Option.map_eq_some_iff.1 h
    subst hj
    obtain ⟨g1,g2⟩ := opArgs_read hws
    refine ⟨[.name w] ++ l.flatMap (opArgK o),g1.join (lexW_word hw1 hw2),by simp,fun r hr => ?_⟩
    rw [List.append_assoc]
    show (match findW w 1 opTab with
     | some (k,r') => pOpArgs r' { kind := k } (l.flatMap (opArgK o) ++ r)
     | none => none) = _
    rw [hf]
    show pOpArgs l { kind := k } _ = _
    rw [g2 hl _ r hr,hset hz]
   ·cases h
  rcases hks with e | e | e | e | e | e | e
  ·exact main 1 w_make [.p,.d,.f] e rfl rfl (by decide) rfl rfl h (by
    rintro ⟨_,h2,_⟩;simp at h2;cases o;simp_all [setOA])
  ·exact main 2 w_set [.p,.d,.v] e rfl rfl (by decide) rfl rfl h (by
    rintro ⟨_,_,h3⟩;simp at h3;cases o;simp_all [setOA])
  ·exact main 3 w_drop [.p,.v] e rfl rfl (by decide) rfl rfl h (by
    rintro ⟨h1,_,h3⟩;simp at h1 h3;cases o;simp_all [setOA])
  ·exact main 4 w_check [.p,.v] e rfl rfl (by decide) rfl rfl h (by
    rintro ⟨h1,_,h3⟩;simp at h1 h3;cases o;simp_all [setOA])
  ·exact main 5 w_get [.p] e rfl rfl (by decide) rfl rfl h (by
    rintro ⟨h1,h2,h3⟩;simp at h1 h2 h3;cases o;simp_all [setOA])
  ·exact main 6 w_look [.p] e rfl rfl (by decide) rfl rfl h (by
    rintro ⟨h1,h2,h3⟩;simp at h1 h2 h3;cases o;simp_all [setOA])
  ·exact main 7 w_list [.p] e rfl rfl (by decide) rfl rfl h (by
    rintro ⟨h1,h2,h3⟩;simp at h1 h2 h3;cases o;simp_all [setOA])
 ·cases h
theorem ops_read : ∀ (n : Nat) (l : List Op) (ts : List Bs),l.mapM opT = some ts → l ≠ [] → l.length ≤ n → ∃ us,LexG (joinS ts) us ∧ us ≠ [] ∧ pOps n us = some l
 | 0,l,ts,_,hne,hl => by
  cases l with
  | nil => exact absurd rfl hne
  | cons _ _ => simp at hl
 | n + 1,[],ts,_,hne,_ => absurd rfl hne
 | n + 1,[o],ts,h,_,_ => by
  rw [List.mapM_cons] at h
  cases ho : opT o with
  | none => rw [ho] at h;cases h
  | some t =>
   rw [ho] at h
   cases h
   obtain ⟨us,g1,g2,g3⟩ := op_read ho
   refine ⟨us,g1,g2,?_⟩
   unfold pOps
   have := g3 [] trivial
   rw [List.append_nil] at this
   rw [this]
 | n + 1,o :: o2 :: l,ts,h,_,hl => by
  rw [List.mapM_cons] at h
  cases ho : opT o with
  | none => rw [ho] at h;cases h
  | some t =>
   rw [ho] at h
   cases hm : (o2 :: l).mapM opT with
   | none => rw [hm] at h;cases h
   | some ts2 =>
    rw [hm] at h
    cases h
    obtain ⟨us,g1,g2,g3⟩ := op_read ho
    obtain ⟨vs,k1,k2,k3⟩ := ops_read n (o2 :: l) ts2 hm (by simp) (by simp at hl ⊢;omega)
    refine ⟨us ++ .semi :: vs,?_,by simp,?_⟩
    ·intro r hr
     cases ts2 with
     | nil =>
      rw [List.mapM_cons] at hm
      cases h2 : opT o2 with
      | none => rw [h2] at hm;cases hm
      | some q =>
       rw [h2] at hm
       cases h3 : l.mapM opT with
       | none => rw [h3] at hm;cases hm
       | some q2 => rw [h3] at hm;cases hm
     | cons t2 ts2 =>
      show lex ((t ++ 32 :: 59 :: 32 :: joinS (t2 :: ts2)) ++ r) = _
      rw [List.append_assoc,List.cons_append,List.cons_append,List.cons_append,g1 _ (sep_cons _),lex_blank (by decide),lex_semi,lex_blank (by decide),k1 r hr]
      cases lex r with
      | none => rfl
      | some l => simp
    ·unfold pOps
     rw [g3 (.semi :: vs) trivial]
     simp only
     rw [k3];rfl
def kindK (n : Int) : Tok := .name (if n = 1 then w_node else if n = 2 then w_kids else w_subtree)
def setA (s s0 : St) : Ar → St
 | .a => { s0 with a := s.a }
 | .b => { s0 with b := s.b }
 | .c => { s0 with c := s.c }
 | .p => { s0 with place := s.place }
 | .k => { s0 with b := s.b }
 | .o => { s0 with ops := s.ops }
theorem arg_read {s : St} {x : Ar} {t : Bs} (h : argT s x = some t) : ∃ ts,LexG t ts ∧ ∀ (s0 : St) (r : List Tok),(x = .o → r = []) → pArg x s0 (ts ++ r) = some (setA s s0 x,r) := by
 cases x with
 | a =>
  obtain ⟨h1,h2,rfl⟩ := numT_some h
  exact ⟨_,(lexW_num h1 h2).g,fun s0 r _ => rfl⟩
 | b =>
  obtain ⟨h1,h2,rfl⟩ := numT_some h
  exact ⟨_,(lexW_num h1 h2).g,fun s0 r _ => rfl⟩
 | c =>
  obtain ⟨h1,h2,rfl⟩ := numT_some h
  exact ⟨_,(lexW_num h1 h2).g,fun s0 r _ => rfl⟩
 | p =>
  simp only [argT] at h
  split at h
  ·rename_i hl
   cases h
   refine ⟨_,(lexW_placed _).g,fun s0 r _ => ?_⟩
   simp only [pArg,List.cons_append,List.nil_append]
   have := pText_place s.place hl r
   unfold placeK at this
   rw [this];rfl
  ·cases h
 | k =>
  simp only [argT,kindT] at h
  split at h
  ·rename_i h0
   cases h
   refine ⟨[.name w_node],lexW_word (by decide) (by decide),fun s0 r _ => ?_⟩
   simp [pArg,pKind,setA,h0]
  ·split at h
   ·rename_i h0
    cases h
    refine ⟨[.name w_kids],lexW_word (by decide) (by decide),fun s0 r _ => ?_⟩
    have : w_kids ≠ w_node := by decide
    simp [pArg,pKind,setA,h0,this]
   ·split at h
    ·rename_i h0
     cases h
     refine ⟨[.name w_subtree],lexW_word (by decide) (by decide),fun s0 r _ => ?_⟩
     have e1 : w_subtree ≠ w_node := by decide
     have e2 : w_subtree ≠ w_kids := by decide
     simp [pArg,pKind,setA,h0,e1,e2]
    ·cases h
 | o =>
  simp only [argT,opsT] at h
  split at h
  ·rename_i hl
   obtain ⟨ts,h1,rfl⟩ := Option.map_eq_some_iff.1 h
   obtain ⟨us,g1,g2,g3⟩ := ops_read 4 s.ops ts h1 (by rintro e;rw [e] at hl;simp at hl) hl.2
   refine ⟨us,g1,fun s0 r hr => ?_⟩
   rw [hr rfl,List.append_nil]
   simp only [pArg,g3];rfl
  ·cases h
def lastO : List Ar → Bool
 | [] => true
 | [_] => true
 | y :: l => (match y with | .o => false | _ => true) && lastO l
theorem args_read {s : St} : ∀ {l : List Ar} {ws : List Bs},l.mapM (argT s) = some ws → ∃ ts,LexL ws ts ∧ (lastO l = true → ∀ (s0 : St),pArgs l s0 ts = some (l.foldl (setA s) s0,[]))
 | [],ws,h => by
  cases h
  exact ⟨[],.nil,fun _ s0 => rfl⟩
 | y :: l,ws,h => by
  rw [List.mapM_cons] at h
  cases ho : argT s y with
  | none => rw [ho] at h;cases h
  | some t =>
   rw [ho] at h
   cases hm : l.mapM (argT s) with
   | none => rw [hm] at h;cases h
   | some ts2 =>
    rw [hm] at h
    cases h
    obtain ⟨us,g1,g2⟩ := arg_read ho
    obtain ⟨vs,k1,k2⟩ := args_read hm
    refine ⟨us ++ vs,.cons g1 k1,fun hl s0 => ?_⟩
    have hl2 : lastO l = true ∧ (y = .o → l = []) := by
     cases l with
     | nil => exact ⟨rfl,fun _ => rfl⟩
     | cons yb l =>
      simp only [lastO,Bool.and_eq_true] at hl
      exact ⟨hl.2,fun he => by subst he;simp at hl⟩
    unfold pArgs
    rw [g2 s0 vs (fun he => by
     have := hl2.2 he
     subst this
     cases hm
     cases k1;rfl)]
    exact k2 hl2.1 _
theorem st_read {s : St} {t : Bs} (h : stT s = some t) : ∃ ts,LexG t ts ∧ ts ≠ [] ∧ pStep ts = some s := by
 unfold stT at h
 split at h
 ·rename_i hk
  have main : ∀ (k : Nat) (w : Bs) (l : List Ar),s.kind = k → stepTab[k - 1]? = some (w,l) → w.all small = true → w ≠ [] → lastO l = true → findW w 1 stepTab = some (k,l) →
    ((match stepTab[s.kind.toNat - 1]? with
      | some (w,r) => if (s.a = 0 ∨ Ar.a ∈ r) ∧ (s.b = 0 ∨ Ar.b ∈ r ∨ Ar.k ∈ r) ∧ (s.c = 0 ∨ Ar.c ∈ r) ∧ (s.place = [] ∨ Ar.p ∈ r) ∧ (s.ops = [] ∨ Ar.o ∈ r) then (r.mapM (argT s)).map fun l => joinW (w :: l) else none
      | none => none) = some t) → ((s.a = 0 ∨ Ar.a ∈ l) ∧ (s.b = 0 ∨ Ar.b ∈ l ∨ Ar.k ∈ l) ∧ (s.c = 0 ∨ Ar.c ∈ l) ∧ (s.place = [] ∨ Ar.p ∈ l) ∧ (s.ops = [] ∨ Ar.o ∈ l) → l.foldl (setA s) { kind := k } = s) →
    ∃ ts,LexG t ts ∧ ts ≠ [] ∧ pStep ts = some s := by
   intro k w l hk ht hw1 hw2 hl hf h hset
   rw [show s.kind.toNat = k by omega,ht] at h
   simp only at h
   split at h
   ·rename_i hz
    obtain ⟨ws,hws,hj⟩ := Option.map_eq_some_iff.1 h
    subst hj
    obtain ⟨ts,g1,g2⟩ := args_read hws
    refine ⟨[.name w] ++ ts,g1.join (lexW_word hw1 hw2),by simp,?_⟩
    show (match findW w 1 stepTab with
     | some (k,r) => match pArgs r { kind := k } ts with
      | some (s,[]) => some s
      | _ => none
     | none => none) = _
    rw [hf]
    simp only
    rw [g2 hl,hset hz]
   ·cases h
  have hks : s.kind = 1 ∨ s.kind = 2 ∨ s.kind = 3 ∨ s.kind = 4 ∨ s.kind = 5 ∨ s.kind = 6 ∨ s.kind = 7 ∨ s.kind = 8 ∨ s.kind = 9 ∨ s.kind = 10 ∨ s.kind = 11 ∨ s.kind = 12 ∨ s.kind = 13 ∨ s.kind = 14 ∨ s.kind = 15 ∨ s.kind = 16 := by omega
  rcases hks with e | e | e | e | e | e | e | e | e | e | e | e | e | e | e | e
  ·exact main 1 w_deliver [.a] e rfl rfl (by decide) rfl rfl h (by rintro ⟨h1,h2,h3,h4,h5⟩;simp at h1 h2 h3 h4 h5;cases s;simp_all [setA])
  ·exact main 2 w_drop [.a] e rfl rfl (by decide) rfl rfl h (by rintro ⟨h1,h2,h3,h4,h5⟩;simp at h1 h2 h3 h4 h5;cases s;simp_all [setA])
  ·exact main 3 w_double [.a] e rfl rfl (by decide) rfl rfl h (by rintro ⟨h1,h2,h3,h4,h5⟩;simp at h1 h2 h3 h4 h5;cases s;simp_all [setA])
  ·exact main 4 w_spoil [.a,.b,.c] e rfl rfl (by decide) rfl rfl h (by rintro ⟨h1,h2,h3,h4,h5⟩;simp at h1 h2 h3 h4 h5;cases s;simp_all [setA])
  ·exact main 5 w_tick [.a] e rfl rfl (by decide) rfl rfl h (by rintro ⟨h1,h2,h3,h4,h5⟩;simp at h1 h2 h3 h4 h5;cases s;simp_all [setA])
  ·exact main 6 w_crash [.a] e rfl rfl (by decide) rfl rfl h (by rintro ⟨h1,h2,h3,h4,h5⟩;simp at h1 h2 h3 h4 h5;cases s;simp_all [setA])
  ·exact main 7 w_within [.a,.b] e rfl rfl (by decide) rfl rfl h (by rintro ⟨h1,h2,h3,h4,h5⟩;simp at h1 h2 h3 h4 h5;cases s;simp_all [setA])
  ·exact main 8 w_restart [.a] e rfl rfl (by decide) rfl rfl h (by rintro ⟨h1,h2,h3,h4,h5⟩;simp at h1 h2 h3 h4 h5;cases s;simp_all [setA])
  ·exact main 9 w_promote [.a,.b] e rfl rfl (by decide) rfl rfl h (by rintro ⟨h1,h2,h3,h4,h5⟩;simp at h1 h2 h3 h4 h5;cases s;simp_all [setA])
  ·exact main 10 w_save [.a] e rfl rfl (by decide) rfl rfl h (by rintro ⟨h1,h2,h3,h4,h5⟩;simp at h1 h2 h3 h4 h5;cases s;simp_all [setA])
  ·exact main 11 w_do [.a,.o] e rfl rfl (by decide) rfl rfl h (by rintro ⟨h1,h2,h3,h4,h5⟩;simp at h1 h2 h3 h4 h5;cases s;simp_all [setA])
  ·exact main 12 w_watch [.a,.p,.k] e rfl rfl (by decide) rfl rfl h (by rintro ⟨h1,h2,h3,h4,h5⟩;simp at h1 h2 h3 h4 h5;cases s;simp_all [setA])
  ·exact main 13 w_unwatch [.a,.b] e rfl rfl (by decide) rfl rfl h (by rintro ⟨h1,h2,h3,h4,h5⟩;simp at h1 h2 h3 h4 h5;cases s;simp_all [setA])
  ·exact main 14 w_begin [.a] e rfl rfl (by decide) rfl rfl h (by rintro ⟨h1,h2,h3,h4,h5⟩;simp at h1 h2 h3 h4 h5;cases s;simp_all [setA])
  ·exact main 15 w_end [.a] e rfl rfl (by decide) rfl rfl h (by rintro ⟨h1,h2,h3,h4,h5⟩;simp at h1 h2 h3 h4 h5;cases s;simp_all [setA])
  ·exact main 16 w_calm [.a] e rfl rfl (by decide) rfl rfl h (by rintro ⟨h1,h2,h3,h4,h5⟩;simp at h1 h2 h3 h4 h5;cases s;simp_all [setA])
 ·cases h
end Go.Rn
namespace Go.Rn
def NoNL (t : Bs) : Prop := ∀ c ∈ t,c ≠ 10
theorem NoNL.append {a b : Bs} (h : NoNL a) (g : NoNL b) : NoNL (a ++ b) := fun c hc => (List.mem_append.1 hc).elim (h c) (g c)
theorem NoNL.cons {c : UInt8} {b : Bs} (h : c ≠ 10) (g : NoNL b) : NoNL (c :: b) := fun d hd => by
 rcases List.mem_cons.1 hd with rfl | hd
 ·exact h
 ·exact g d hd
theorem NoNL.nil : NoNL [] := fun c hc => by cases hc
theorem NoNL.of_all {p : UInt8 → Bool} (hp : p 10 = false) {s : Bs} (h : s.all p = true) : NoNL s := fun c hc e => by
 subst e
 rw [List.all_eq_true.1 h _ hc] at hp;cases hp
theorem nl_quoteB (c : UInt8) : NoNL (quoteB c) := by
 have : ∀ c : UInt8,(quoteB c).all (fun d => d != 10) = true := u8 (by decide +kernel)
 exact NoNL.of_all (by decide) (this c)
theorem nl_flat : ∀ (s : Bs),NoNL (s.flatMap quoteB)
 | [] => .nil
 | c :: s => by rw [List.flatMap_cons];exact (nl_quoteB c).append (nl_flat s)
theorem nl_quote (s : Bs) : NoNL (quote s) := .cons (by decide) ((nl_flat s).append (.cons (by decide) .nil))
theorem nl_placed (s : Bs) : NoNL (placed s) := by
 unfold placed
 split
 ·rename_i h;exact NoNL.of_all (by decide) h.2
 ·exact nl_quote s
theorem nl_itoa (n : Int) : NoNL (Lib.itoa n) := by
 unfold Lib.itoa
 split
 ·exact .cons (by decide) (NoNL.of_all (p := digit) (by decide) (dec_spec _).2.1)
 ·exact NoNL.of_all (p := digit) (by decide) (dec_spec _).2.1
theorem nl_word {w : Bs} (h : w.all small = true) : NoNL w := NoNL.of_all (by decide) h
theorem nl_joinW : ∀ (ws : List Bs),(∀ w ∈ ws,NoNL w) → NoNL (joinW ws)
 | [],_ => .nil
 | [w],h => h w (by simp)
 | w :: w2 :: ws,h => (h w (by simp)).append (.cons (by decide) (nl_joinW (w2 :: ws) fun x hx => h x (by simp [hx])))
theorem nl_joinS : ∀ (ws : List Bs),(∀ w ∈ ws,NoNL w) → NoNL (joinS ws)
 | [],_ => .nil
 | [w],h => h w (by simp)
 | w :: w2 :: ws,h => (h w (by simp)).append (.cons (by decide) (.cons (by decide) (.cons (by decide) (nl_joinS (w2 :: ws) fun x hx => h x (by simp [hx])))))
theorem nl_opArg {o : Op} {a : OA} {ws : List Bs} (h : opArgT o a = some ws) : ∀ w ∈ ws,NoNL w := by
 have hb : NoNL w_brief := nl_word (by decide)
 have hc : NoNL w_counted := nl_word (by decide)
 cases a <;> simp only [opArgT] at h
 ·split at h
  ·cases h;intro w hw;simp at hw;subst hw;exact nl_placed _
  ·cases h
 ·split at h
  ·cases h;intro w hw;simp at hw;subst hw;exact nl_quote _
  ·cases h
 ·obtain ⟨t,ht,hf⟩ := Option.map_eq_some_iff.1 h
  obtain ⟨h1,h2,rfl⟩ := numT_some ht
  cases hf;intro w hw;simp at hw;subst hw;exact nl_itoa _
 ·split at h
  ·cases h;intro w hw;cases hw
  ·split at h
   ·cases h;intro w hw;simp at hw;subst hw;exact hb
   ·split at h
    ·cases h;intro w hw;simp at hw;subst hw;exact hc
    ·split at h
     ·cases h;intro w hw;simp at hw;rcases hw with rfl | rfl
      ·exact hb
      ·exact hc
     ·cases h
theorem nl_opArgs {o : Op} : ∀ {l : List OA} {ws : List Bs},opArgsT o l = some ws → ∀ w ∈ ws,NoNL w
 | [],ws,h,w,hw => by simp [opArgsT] at h;subst h;cases hw
 | a :: l,ws,h,w,hw => by
  unfold opArgsT at h
  split at h
  ·rename_i x y hx hy
   cases h
   rcases List.mem_append.1 hw with hw | hw
   ·exact nl_opArg hx w hw
   ·exact nl_opArgs hy w hw
  ·cases h
theorem nl_opTab : ∀ p ∈ opTab,p.1.all small = true := by decide
theorem nl_stepTab : ∀ p ∈ stepTab,p.1.all small = true := by decide
theorem nl_op {o : Op} {t : Bs} (h : opT o = some t) : NoNL t := by
 unfold opT at h
 split at h
 ·split at h
  ·rename_i w r hw
   split at h
   ·obtain ⟨ws,hws,hj⟩ := Option.map_eq_some_iff.1 h
    subst hj
    refine nl_joinW _ fun x hx => ?_
    rcases List.mem_cons.1 hx with rfl | hx
    ·exact nl_word (nl_opTab _ (List.mem_of_getElem? hw))
    ·exact nl_opArgs hws x hx
   ·cases h
  ·cases h
 ·cases h
theorem nl_arg {s : St} {x : Ar} {t : Bs} (h : argT s x = some t) : NoNL t := by
 cases x <;> simp only [argT] at h
 ·obtain ⟨h1,h2,rfl⟩ := numT_some h;exact nl_itoa _
 ·obtain ⟨h1,h2,rfl⟩ := numT_some h;exact nl_itoa _
 ·obtain ⟨h1,h2,rfl⟩ := numT_some h;exact nl_itoa _
 ·split at h
  ·cases h;exact nl_placed _
  ·cases h
 ·unfold kindT at h
  split at h
  ·cases h;exact nl_word (by decide)
  ·split at h
   ·cases h;exact nl_word (by decide)
   ·split at h
    ·cases h;exact nl_word (by decide)
    ·cases h
 ·unfold opsT at h
  split at h
  ·obtain ⟨ts,h1,rfl⟩ := Option.map_eq_some_iff.1 h
   refine nl_joinS _ fun w hw => ?_
   obtain ⟨o,_,ho⟩ := mapM_mem h1 w hw
   exact nl_op ho
  ·cases h
theorem nl_st {s : St} {t : Bs} (h : stT s = some t) : NoNL t := by
 unfold stT at h
 split at h
 ·split at h
  ·rename_i w r hw
   split at h
   ·obtain ⟨ws,hws,hj⟩ := Option.map_eq_some_iff.1 h
    subst hj
    refine nl_joinW _ fun x hx => ?_
    rcases List.mem_cons.1 hx with rfl | hx
    ·exact nl_word (nl_stepTab _ (List.mem_of_getElem? hw))
    ·obtain ⟨y,_,hy⟩ := mapM_mem hws x hx
     exact nl_arg hy
   ·cases h
  ·cases h
 ·cases h
theorem splitL_app {a : Bs} (h : NoNL a) (b : Bs) : splitL (a ++ 10 :: b) = a :: splitL b := by
 induction a with
 | nil => simp [splitL]
 | cons c a ih =>
  have hc := h c (by simp)
  rw [List.cons_append,splitL,if_neg hc,ih fun d hd => h d (by simp [hd])]
theorem lexG_field {w : Bs} {n : Int} {t : Bs} (hw : w.all small = true) (hw2 : w ≠ []) (h : numT n = some t) : LexG (w ++ 32 :: t) [.name w,.num n] := by
 obtain ⟨h1,h2,rfl⟩ := numT_some h
 intro r hr
 rw [List.append_assoc,List.cons_append,lexW_word hw hw2 _ (sep_cons _),lex_blank (by decide),(lexW_num h1 h2).g r hr]
 cases lex r with
 | none => rfl
 | some l => rfl
theorem LexG.more {a b : Bs} {ts us : List Tok} (h : LexG a ts) (g : LexG b us) : LexG (a ++ 32 :: b) (ts ++ us) := by
 intro r hr
 rw [List.append_assoc,List.cons_append,h _ (sep_cons _),lex_blank (by decide),g r hr]
 cases lex r with
 | none => rfl
 | some l => simp
theorem rules_some {r : Ru} {t : Bs} (h : rulesT r = some t) : ∃ t1 t2 t3 t4 t5 t6,numT r.nodes = some t1 ∧ numT r.clients = some t2 ∧ numT r.queue = some t3 ∧ numT r.ring = some t4 ∧ numT r.window = some t5 ∧ numT r.lease = some t6 ∧
  t = w_world ++ 32 :: (w_nodes ++ 32 :: t1) ++ 32 :: (w_clients ++ 32 :: t2) ++ 32 :: (w_queue ++ 32 :: t3) ++ 32 :: (w_ring ++ 32 :: t4) ++ 32 :: (w_window ++ 32 :: t5) ++ 32 :: (w_lease ++ 32 :: t6) := by
 unfold rulesT at h
 cases e1 : numT r.nodes with
 | none => simp [e1] at h
 | some t1 =>
 cases e2 : numT r.clients with
 | none => simp [e1,e2] at h
 | some t2 =>
 cases e3 : numT r.queue with
 | none => simp [e1,e2,e3] at h
 | some t3 =>
 cases e4 : numT r.ring with
 | none => simp [e1,e2,e3,e4] at h
 | some t4 =>
 cases e5 : numT r.window with
 | none => simp [e1,e2,e3,e4,e5] at h
 | some t5 =>
 cases e6 : numT r.lease with
 | none => simp [e1,e2,e3,e4,e5,e6] at h
 | some t6 =>
 refine ⟨t1,t2,t3,t4,t5,t6,rfl,rfl,rfl,rfl,rfl,rfl,?_⟩
 simp only [List.mapM_cons,List.mapM_nil,e1,e2,e3,e4,e5,e6,Option.map_some,Option.bind_eq_bind,Option.bind_some,Option.pure_def,Option.some.injEq] at h
 rw [← h]
 simp
theorem rules_read {r : Ru} {t : Bs} (h : rulesT r = some t) : NoNL t ∧ ∃ u us,LexG t (u :: us) ∧ pRules (u :: us) = some r := by
 obtain ⟨t1,t2,t3,t4,t5,t6,e1,e2,e3,e4,e5,e6,rfl⟩ := rules_some h
 have nn : ∀ {n : Int} {t : Bs},numT n = some t → NoNL t := fun e => by obtain ⟨_,_,rfl⟩ := numT_some e;exact nl_itoa _
 refine ⟨?_,.name w_world,[.name w_nodes,.num r.nodes,.name w_clients,.num r.clients,.name w_queue,.num r.queue,.name w_ring,.num r.ring,.name w_window,.num r.window,.name w_lease,.num r.lease],((((((lexW_word (w := w_world) (by decide) (by decide)).more (lexG_field (w := w_nodes) (by decide) (by decide) e1)).more (lexG_field (w := w_clients) (by decide) (by decide) e2)).more (lexG_field (w := w_queue) (by decide) (by decide) e3)).more (lexG_field (w := w_ring) (by decide) (by decide) e4)).more (lexG_field (w := w_window) (by decide) (by decide) e5)).more (lexG_field (w := w_lease) (by decide) (by decide) e6),?_⟩
 ·have k : ∀ {w : Bs} {n : Int} {t : Bs},w.all small = true → numT n = some t → NoNL (32 :: (w ++ 32 :: t)) := fun hw e => .cons (by decide) ((nl_word hw).append (.cons (by decide) (nn e)))
  exact ((((((nl_word (w := w_world) (by decide)).append (k (by decide) e1)).append (k (by decide) e2)).append (k (by decide) e3)).append (k (by decide) e4)).append (k (by decide) e5)).append (k (by decide) e6)
 ·have q : ∀ (s : Bs) (r : List Tok),pIs s (.name s :: r) = some r := fun s r => by simp [pIs]
  simp [pRules,q,ruleWords,pFields,pField,pNum]
theorem lines_read (r : Ru) : ∀ (l : List St) (ts : List Bs) (row : Nat) (acc : List St),l.mapM stT = some ts → acc.length + l.length ≤ 400 →
  pLines (splitL (ts.map fun t => t ++ [10]).flatten) row (some r) acc = .ok r (acc ++ l)
 | [],ts,row,acc,h,_ => by
  cases h
  show pLines [[]] row (some r) acc = _
  unfold pLines
  rw [lex_nil]
  show pLines [] (row + 1) (some r) acc = _
  unfold pLines
  simp
 | s :: l,ts,row,acc,h,hl => by
  rw [List.mapM_cons] at h
  cases hs : stT s with
  | none => rw [hs] at h;cases h
  | some t =>
   rw [hs] at h
   cases hm : l.mapM stT with
   | none => rw [hm] at h;cases h
   | some ts2 =>
    rw [hm] at h
    cases h
    obtain ⟨us,g1,g2,g3⟩ := st_read hs
    rw [List.map_cons,List.flatten_cons,List.append_assoc,List.cons_append,List.nil_append,splitL_app (nl_st hs)]
    have hlex : lex t = some us := by
     have := g1 [] sep_nil
     rw [List.append_nil] at this
     rw [this];simp
    unfold pLines
    rw [hlex]
    cases us with
    | nil => exact absurd rfl g2
    | cons u us =>
     simp only
     rw [g3]
     simp only
     rw [if_neg (by simp at hl;omega),lines_read r l ts2 (row + 1) (acc ++ [s]) hm (by simp at hl ⊢;omega)]
     simp
theorem print_read {r : Ru} {l : List St} {t : Bs} (h : print r l = .ok t) : parse t = .ok r l := by
 unfold print at h
 split at h
 ·cases h
 ·rename_i hl
  split at h
  ·cases h
  ·rename_i t' ht
   split at h
   ·cases h
   ·rename_i htl
    cases h
    unfold parse
    rw [if_neg htl]
    unfold printT at ht
    split at ht
    ·rename_i a b ha hb
     cases ht
     obtain ⟨n1,u,us,g1,g2⟩ := rules_read ha
     rw [splitL_app n1]
     have hlex : lex a = some (u :: us) := by
      have := g1 [] sep_nil
      rw [List.append_nil] at this
      rw [this];simp
     unfold pLines
     rw [hlex]
     simp only
     rw [g2]
     simp only
     rw [lines_read r l b 1 [] hb (by simpa using Nat.le_of_not_lt hl)]
     simp
    ·cases ht
end Go.Rn
namespace Go.Rn
def Sm (n : Int) : Prop := -2147483647 ≤ n ∧ n ≤ 2147483647
theorem Sm.zero : Sm 0 := by unfold Sm;omega
def TokS (ts : List Tok) : Prop := ∀ n,Tok.num n ∈ ts → Sm n
theorem TokS.tail {t : Tok} {ts : List Tok} (h : TokS (t :: ts)) : TokS ts := fun n hn => h n (List.mem_cons_of_mem _ hn)
theorem TokS.nil : TokS [] := fun n hn => by cases hn
theorem numeral1_small {m : Bool} {l r : Bs} {n : Int} (h : numeral1 m l = some (n,r)) : Sm n := by
 unfold numeral1 at h
 split at h
 ·cases h
 ·split at h
  ·cases h
  ·rename_i hn
   injection h with h
   injection h with h1 h2
   subst h1
   unfold Sm
   split <;> omega
theorem one_small {l r : Bs} {t : Tok} (h : one l = some (t,r)) : ∀ n,t = .num n → Sm n := by
 intro n hn
 subst hn
 cases l with
 | nil => cases h
 | cons c l =>
  unfold one at h
  split at h
  ·cases h
  split at h
  ·split at h
   ·cases h
   ·injection h with h;injection h with h1 h2;cases h1
  ·split at h
   ·obtain ⟨q,hq,e⟩ := Option.map_eq_some_iff.1 h
    injection e with e1 e2
    injection e1 with e1
    subst e1
    exact numeral1_small (show numeral1 _ _ = some (q.1,q.2) from hq)
   ·split at h
    ·injection h with h;injection h with h1 h2;cases h1
    ·split at h
     ·obtain ⟨q,hq,e⟩ := Option.map_eq_some_iff.1 h
      injection e with e1 e2;cases e1
     ·cases h
theorem lexN_small : ∀ {k : Nat} {l : Bs} {ts : List Tok},lexN k l = some ts → TokS ts
 | _,[],ts,h => by simp [lexN] at h;subst h;exact .nil
 | 0,_ :: _,_,h => by simp [lexN] at h
 | k + 1,c :: r,ts,h => by
  rw [lexN] at h
  split at h
  ·exact lexN_small h
  ·split at h
   ·cases h;exact .nil
   ·split at h
    ·obtain ⟨q,hq,rfl⟩ := Option.map_eq_some_iff.1 h
     intro n hn
     rcases List.mem_cons.1 hn with e | hn
     ·cases e
     ·exact lexN_small hq n hn
    ·split at h
     ·rename_i t r1 ho
      obtain ⟨q,hq,rfl⟩ := Option.map_eq_some_iff.1 h
      intro n hn
      rcases List.mem_cons.1 hn with e | hn
      ·exact one_small ho n e.symm
      ·exact lexN_small hq n hn
     ·cases h
theorem lex_small {l : Bs} {ts : List Tok} (h : lex l = some ts) : TokS ts := lexN_small h
theorem pNum_small {t r : List Tok} {n : Int} (h : pNum t = some (n,r)) (ht : TokS t) : Sm n ∧ TokS r := by
 unfold pNum at h
 split at h
 ·injection h with h;injection h with h1 h2;subst h1;subst h2
  exact ⟨ht _ (List.mem_cons_self ..),ht.tail⟩
 ·cases h
theorem pText_small {k : Bool} {t r : List Tok} {s : Bs} (h : pText k t = some (s,r)) (ht : TokS t) : TokS r := by
 unfold pText at h
 split at h
 ·split at h
  ·cases h;exact ht.tail
  ·cases h
 ·split at h
  ·cases h;exact ht.tail
  ·cases h
 ·cases h
theorem pIs_small {w : Bs} {t r : List Tok} (h : pIs w t = some r) (ht : TokS t) : TokS r := by
 unfold pIs at h
 split at h
 ·split at h
  ·cases h;exact ht.tail
  ·cases h
 ·cases h
theorem pBrief_small {t : List Tok} (ht : TokS t) : TokS (pBrief t).2 := by
 unfold pBrief
 split
 ·rename_i h;exact pIs_small h ht
 ·exact ht
theorem pCounted_small {f : Int} {t : List Tok} (ht : TokS t) : TokS (pCounted f t).2 := by
 unfold pCounted
 split
 ·rename_i h;exact pIs_small h ht
 ·exact ht
theorem pOpArg_small {x : OA} {o o1 : Op} {t t1 : List Tok} (h : pOpArg x o t = some (o1,t1)) (ht : TokS t) (ho : Sm o.version) : Sm o1.version ∧ TokS t1 := by
 cases x <;> simp only [pOpArg] at h
 ·obtain ⟨q,hq,e⟩ := Option.map_eq_some_iff.1 h
  injection e with e1 e2;subst e1;subst e2
  exact ⟨ho,pText_small (s := q.1) (r := q.2) hq ht⟩
 ·obtain ⟨q,hq,e⟩ := Option.map_eq_some_iff.1 h
  injection e with e1 e2;subst e1;subst e2
  exact ⟨ho,pText_small (s := q.1) (r := q.2) hq ht⟩
 ·obtain ⟨q,hq,e⟩ := Option.map_eq_some_iff.1 h
  injection e with e1 e2;subst e1;subst e2
  exact pNum_small (n := q.1) (r := q.2) hq ht
 ·injection h with h;injection h with e1 e2;subst e1;subst e2
  exact ⟨ho,pCounted_small (pBrief_small ht)⟩
theorem pOpArgs_small : ∀ {l : List OA} {o o1 : Op} {t t1 : List Tok},pOpArgs l o t = some (o1,t1) → TokS t → Sm o.version → Sm o1.version ∧ TokS t1
 | [],_,_,_,_,h,ht,ho => by cases h;exact ⟨ho,ht⟩
 | x :: l,o,o1,t,t1,h,ht,ho => by
  rw [pOpArgs] at h
  split at h
  ·rename_i e
   obtain ⟨q1,q2⟩ := pOpArg_small e ht ho
   exact pOpArgs_small h q2 q1
  ·cases h
theorem pOp_small {t r : List Tok} {o : Op} (h : pOp t = some (o,r)) (ht : TokS t) : Sm o.version ∧ TokS r := by
 unfold pOp at h
 split at h
 ·split at h
  ·exact pOpArgs_small h ht.tail .zero
  ·cases h
 ·cases h
theorem pOps_small : ∀ {n : Nat} {t : List Tok} {l : List Op},pOps n t = some l → TokS t → ∀ o ∈ l,Sm o.version
 | 0,_,_,h,_ => by simp [pOps] at h
 | n + 1,t,l,h,ht => by
  rw [pOps] at h
  split at h
  ·rename_i e
   cases h
   intro o ho
   simp at ho
   subst ho
   exact (pOp_small e ht).1
  ·rename_i e
   obtain ⟨m,hm,rfl⟩ := Option.map_eq_some_iff.1 h
   obtain ⟨q1,q2⟩ := pOp_small e ht
   intro o ho
   rcases List.mem_cons.1 ho with rfl | ho
   ·exact q1
   ·exact pOps_small hm q2.tail o ho
  ·cases h
theorem pKind_small {t r : List Tok} {n : Int} (h : pKind t = some (n,r)) (ht : TokS t) : Sm n ∧ TokS r := by
 unfold pKind at h
 split at h
 ·split at h
  ·cases h;exact ⟨by unfold Sm;omega,ht.tail⟩
  ·split at h
   ·cases h;exact ⟨by unfold Sm;omega,ht.tail⟩
   ·split at h
    ·cases h;exact ⟨by unfold Sm;omega,ht.tail⟩
    ·cases h
 ·cases h
def StS (s : St) : Prop := Sm s.a ∧ Sm s.b ∧ Sm s.c ∧ ∀ o ∈ s.ops,Sm o.version
theorem pArg_small {x : Ar} {s s1 : St} {t t1 : List Tok} (h : pArg x s t = some (s1,t1)) (ht : TokS t) (hs : StS s) : StS s1 ∧ TokS t1 := by
 obtain ⟨h1,h2,h3,h4⟩ := hs
 cases x <;> simp only [pArg] at h <;> obtain ⟨q,hq,e⟩ := Option.map_eq_some_iff.1 h <;> injection e with e1 e2 <;> subst e1 <;> subst e2
 ·obtain ⟨a1,a2⟩ := pNum_small (n := q.1) (r := q.2) hq ht
  exact ⟨⟨a1,h2,h3,h4⟩,a2⟩
 ·obtain ⟨a1,a2⟩ := pNum_small (n := q.1) (r := q.2) hq ht
  exact ⟨⟨h1,a1,h3,h4⟩,a2⟩
 ·obtain ⟨a1,a2⟩ := pNum_small (n := q.1) (r := q.2) hq ht
  exact ⟨⟨h1,h2,a1,h4⟩,a2⟩
 ·exact ⟨⟨h1,h2,h3,h4⟩,pText_small (s := q.1) (r := q.2) hq ht⟩
 ·obtain ⟨a1,a2⟩ := pKind_small (n := q.1) (r := q.2) hq ht
  exact ⟨⟨h1,a1,h3,h4⟩,a2⟩
 ·exact ⟨⟨h1,h2,h3,pOps_small hq ht⟩,.nil⟩
theorem pArgs_small : ∀ {l : List Ar} {s s1 : St} {t t1 : List Tok},pArgs l s t = some (s1,t1) → TokS t → StS s → StS s1
 | [],_,_,_,_,h,_,hs => by cases h;exact hs
 | x :: l,s,s1,t,t1,h,ht,hs => by
  rw [pArgs] at h
  split at h
  ·rename_i e
   obtain ⟨q1,q2⟩ := pArg_small e ht hs
   exact pArgs_small h q2 q1
  ·cases h
theorem pStep_small {t : List Tok} {s : St} (h : pStep t = some s) (ht : TokS t) : StS s := by
 unfold pStep at h
 split at h
 ·split at h
  ·split at h
   ·rename_i e
    cases h
    exact pArgs_small e ht.tail ⟨.zero,.zero,.zero,fun o ho => by cases ho⟩
   ·cases h
  ·cases h
 ·cases h
theorem pFields_small : ∀ {l : List Bs} {t r : List Tok} {ns : List Int},pFields l t = some (ns,r) → TokS t → ∀ n ∈ ns,Sm n
 | [],_,_,_,h,_ => by cases h;intro n hn;cases hn
 | w :: l,t,r,ns,h,ht => by
  rw [pFields] at h
  split at h
  ·rename_i n t1 e
   obtain ⟨q,hq,e2⟩ := Option.map_eq_some_iff.1 h
   injection e2 with e3 e4
   subst e3
   unfold pField at e
   split at e
   ·rename_i h1
    obtain ⟨q1,q2⟩ := pNum_small e (pIs_small h1 ht)
    intro m hm
    rcases List.mem_cons.1 hm with rfl | hm
    ·exact q1
    ·exact pFields_small (ns := q.1) (r := q.2) hq q2 m hm
   ·cases e
  ·cases h
def RuS (r : Ru) : Prop := Sm r.nodes ∧ Sm r.clients ∧ Sm r.queue ∧ Sm r.ring ∧ Sm r.window ∧ Sm r.lease
theorem pRules_small {t : List Tok} {r : Ru} (h : pRules t = some r) (ht : TokS t) : RuS r := by
 unfold pRules at h
 split at h
 ·rename_i h1
  split at h
  ·rename_i n1 n2 n3 n4 n5 n6 e
   cases h
   have := pFields_small e (pIs_small h1 ht)
   exact ⟨this _ (by simp),this _ (by simp),this _ (by simp),this _ (by simp),this _ (by simp),this _ (by simp)⟩
  ·cases h
 ·cases h
theorem pLines_small : ∀ {ls : List Bs} {row : Nat} {bg : Option Ru} {acc : List St} {r : Ru} {l : List St},pLines ls row bg acc = .ok r l → (∀ b,bg = some b → RuS b) → (∀ s ∈ acc,StS s) → RuS r ∧ ∀ s ∈ l,StS s
 | [],_,none,_,_,_,h,_,_ => by simp [pLines] at h
 | [],_,some _,acc,_,_,h,h1,h2 => by
  simp only [pLines,PRes.ok.injEq] at h
  rw [← h.1,← h.2]
  exact ⟨h1 _ rfl,h2⟩
 | x :: ls,row,bg,acc,r,l,h,h1,h2 => by
  rw [pLines] at h
  split at h
  ·cases h
  ·exact pLines_small h h1 h2
  ·rename_i e
   have ht := lex_small e
   cases bg with
   | none =>
    dsimp only at h
    split at h
    ·cases h
    ·rename_i e2
     exact pLines_small h (fun b hb => by cases hb;exact pRules_small e2 ht) h2
   | some b =>
    dsimp only at h
    split at h
    ·cases h
    ·rename_i s e2
     split at h
     ·cases h
     ·refine pLines_small h h1 fun q hq => ?_
      rcases List.mem_append.1 hq with hq | hq
      ·exact h2 q hq
      ·simp at hq;subst hq;exact pStep_small e2 ht
theorem parse_small {t : Bs} {r : Ru} {l : List St} (h : parse t = .ok r l) : RuS r ∧ ∀ s ∈ l,StS s := by
 unfold parse at h
 split at h
 ·cases h
 ·exact pLines_small h (fun _ h => by cases h) fun _ h => by cases h
end Go.Rn
section
set_option maxRecDepth 100000
namespace Go.Proofs.YtnoghchcboiojaaGreatDoor
open Go.Ev
open Go.Rn (Bs Tok Ru St PRes)
variable {p : Bool} {F : Nat} {h : H}
theorem sm_i64 {n : Int} (h : Rn.Sm n) : I64 n := by unfold Rn.Sm at h;unfold I64;omega
theorem ruS_n {r : Ru} (h : Rn.RuS r) : RuN r := ⟨sm_i64 h.1,sm_i64 h.2.1,sm_i64 h.2.2.1,sm_i64 h.2.2.2.1,sm_i64 h.2.2.2.2.1,sm_i64 h.2.2.2.2.2⟩
theorem stS_n {s : St} (h : Rn.StS s) : StN s := ⟨sm_i64 h.1,sm_i64 h.2.1,sm_i64 h.2.2.1,fun o ho => sm_i64 (h.2.2.2 o ho)⟩
theorem law5 (hG : Glo h) (hR : GloR h) (h14 : 14 ≤ h.size) (hF : 4398046511200 < F) (t : Bs) : Ans (cf true (F + 12) 5 [vs t] h) fun v _ => v = .bool true := by
 rw [cf_step (a := a5) rfl rfl (by simp [a5])]
 have q1 : F + 2 + 9 = F + 11 := by omega
 have q3 : F + 9 + 2 = F + 11 := by omega
 have q4 : F + 10 + 1 = F + 11 := by omega
 have e1 := fun (h1 : H) (k : Kept h h1 []) (t : Bs) => parse_spec (p := true) (h := h1) (F := F + 2) t (hG.kept0 k) (Nat.le_trans h14 k.1) (by omega)
 have e3 := fixed_spec (h := h) (F := F) hG h14 hF
 have e4 := fun (h1 : H) (ok ok' : Nat → Prop) (v w : Value) (xs ys : List St) (hx : SlR ok 6 StE h1 v xs) (hy : SlR ok' 6 StE h1 w ys) (hl : xs.length ≤ 400) (ho : ∀ s ∈ xs,s.ops.length ≤ 4) =>
  steps_eq (p := true) (h := h1) (F := F + 9) hx hy (by omega) (by omega) (fun s hs => by have := ho s hs;exact ⟨by omega,by omega⟩)
 have e5 := fun (h1 : H) (k : Kept h h1 []) (ok : Nat → Prop) (v : Value) (l : List St) (r : Ru) => print_call (F := F + 10) (ok := ok) (v := v) (l := l) (r := r) (hG.kept0 k)
 have q6 : F - 1 + 12 = F + 11 := by omega
 have e6 := fun (h1 : H) (k : Kept h h1 []) (ok : Nat → Prop) (v : Value) (l : List St) (r : Ru) (hr : RuN r) (hS : SlR ok 6 StE h1 v l) (hl : l.length < 4398046511104) (hN : ∀ s ∈ l,StN s ∧ s.ops.length < 4398046511104) =>
  rprint_w (p := true) (F := F - 1) r hr l hS hl hN (hR.kept k) (by omega)
 rw [q3] at e4
 rw [q1] at e1
 rw [q4] at e5
 rw [q6] at e6
 generalize cf true (F + 11) = c at *
 simp [a5,r5_0,r5_1]
 refine Ans.next e3 ?_
 rintro w h1 ⟨k1,rfl⟩
 simp (disch := first|omega|(simp only [zS];first|done|omega)) [bB,r5_2,aUn,r5_4]
 refine Ans.next (e1 _ k1 t) ?_
 rintro w h2 ⟨k2,hw⟩
 have k12 := k1.trans k2
 cases hp : Rn.parse t with
 | ok r l =>
  rw [hp] at hw
  obtain ⟨sv,xs,rfl,hxl,rfl,hS⟩ := hw
  obtain ⟨b1,b2⟩ := Rn.parse_len hp
  obtain ⟨s1,s2⟩ := Rn.parse_small hp
  have hN : ∀ s ∈ xs.map (fun x => x.1),StN s ∧ s.ops.length < 4398046511104 := fun s hs => ⟨stS_n (s2 s hs),by have := b2 s hs;omega⟩
  have hre := ru_eq r
  have e6 := fun h1 k ok v l => e6 h1 k ok v l r (ruS_n s1)
  have e5 := fun h1 k ok v l => e5 h1 k ok v l r
  have hpr := fun t' (hh : Rn.print r (xs.map fun x => x.1) = .ok t') => Rn.print_read hh
  have hex : ∃ a b c d e f : Int,ruC r = [vi a,vi b,vi c,vi d,vi e,vi f] := ⟨_,_,_,_,_,_,rfl⟩
  clear hp
  generalize hru : ruC r = R at *
  obtain ⟨na,nb,nc,nd,ne,nf,rfl⟩ := hex
  have k3 := k12.trans (rowKept h2 [vi na,vi nb,vi nc,vi nd,vi ne,vi nf] 0 [])
  have hA : hget (Ev.newRow h2 [vi na,vi nb,vi nc,vi nd,vi ne,vi nf] 0 []) h2.size = some (.cells [vi na,vi nb,vi nc,vi nd,vi ne,vi nf] 0 true []) := by simp
  have hS3 := hS.kept (rowKept h2 [vi na,vi nb,vi nc,vi nd,vi ne,vi nf] 0 []) (by simp)
  have z3 : (Ev.newRow h2 [vi na,vi nb,vi nc,vi nd,vi ne,vi nf] 0 []).size = h2.size + 1 := by simp
  simp (disch := first|omega|(simp only [zS];first|done|omega)) [bB,r5_5,r5_7]
  generalize Ev.newRow h2 [vi na,vi nb,vi nc,vi nd,vi ne,vi nf] 0 [] = h3 at *
  refine Ans.next (e6 _ k3 _ _ _ hS3.steps (by omega) hN) ?_
  rintro w h4 ⟨k4,rfl⟩
  have k04 := k3.trans k4
  have hA4 := (k4.get (b := h2.size) (by omega) (by simp)).trans hA
  have hS4 := hS3.kept k4 (by simp)
  have e5a := e5 _ k04 _ _ _ hS4.steps
  generalize hzz : Rn.print r (xs.map fun x => x.1) = z at *
  obtain ⟨tt,cc,hz,hz2⟩ := printV_code z
  rw [hz] at e5a ⊢
  simp (disch := first|omega|(simp only [zS];first|done|omega)) [bB,r5_8,hA4,e5a]
  cases z with
  | long =>
   obtain ⟨rfl,rfl⟩ := hz2
   simp (disch := first|omega|(simp only [zS];first|done|omega)) [bB,r5_9,r5_10,lit_zero]
   exact Ans.of rfl
  | bad =>
   obtain ⟨rfl,rfl⟩ := hz2
   simp (disch := first|omega|(simp only [zS];first|done|omega)) [bB,r5_9,r5_10,lit_zero]
   exact Ans.of rfl
  | ok x =>
   obtain ⟨rfl,rfl⟩ := hz2
   have e1a := e1 _ k04 tt
   rw [hpr tt rfl] at e1a
   simp (disch := first|omega|(simp only [zS];first|done|omega)) [bB,r5_9,r5_11,r5_13]
   refine Ans.next e1a ?_
   rintro w h5 ⟨k5,sv',xs',hxx,hxl',rfl,hS5⟩
   rw [hru]
   have k05 := k04.trans k5
   have k6 := rowKept h5 [vi na,vi nb,vi nc,vi nd,vi ne,vi nf] 0 []
   have k06 := k05.trans k6
   have hA6 := ((k5.trans k6).get (b := h2.size) (by have := k4.1;omega) (by simp)).trans hA4
   have hB : hget (Ev.newRow h5 [vi na,vi nb,vi nc,vi nd,vi ne,vi nf] 0 []) h5.size = some (.cells [vi na,vi nb,vi nc,vi nd,vi ne,vi nf] 0 true []) := by simp
   have hS6 := hS5.kept k6 (by simp)
   have hS46 := hS4.kept (k5.trans k6) (by simp)
   simp (disch := first|omega|(simp only [zS];first|done|omega)) [bB]
   generalize Ev.newRow h5 [vi na,vi nb,vi nc,vi nd,vi ne,vi nf] 0 [] = h6 at *
   have e5b := e5 _ k06 _ _ _ hS6.steps
   rw [← hxx,hzz,hz] at e5b
   have s2' := hS6.steps
   rw [← hxx] at s2'
   have e7 := e4 _ _ _ _ _ _ _ hS46.steps s2' b1 b2
   simp only [decide_true] at e7
   simp (disch := first|omega|(simp only [zS];first|done|omega)) [bB,r5_14,hB,e5b,r5_15,hA6,hre,e7,ofB_beq]
   exact Ans.of rfl
 | long row =>
  rw [hp] at hw
  obtain rfl := hw
  simp (disch := first|omega|(simp only [zS];first|done|omega)) [bB,errV,zer,r5_5,r5_6]
  exact Ans.of rfl
 | bad row =>
  rw [hp] at hw
  obtain rfl := hw
  simp (disch := first|omega|(simp only [zS];first|done|omega)) [bB,errV,zer,r5_5,r5_6]
  exact Ans.of rfl
end Go.Proofs.YtnoghchcboiojaaGreatDoor
end
