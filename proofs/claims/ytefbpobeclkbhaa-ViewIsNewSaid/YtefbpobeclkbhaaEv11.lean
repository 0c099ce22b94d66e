/- Ev11: from the model's operations to the compact ones. -/
import Derived.Test.YtefbpobeclkbhaaEv10
namespace Go.Ev
variable {P : Program} {ρ : Ren} {h : H} {a : Act} {w : World} {s : Env} {n : Nat}

def isStr (P : Program) (t : TypeId) : Bool := match P.underlying t with | some .string => true | _ => false
def isU8 (P : Program) (t : TypeId) : Bool := match P.underlying t with | some (.int .u8) => true | _ => false

def ekOf : TypeDesc → Option EK
  | .bool => some .bool
  | .pointer _ => some .ptr
  | .slice _ => some .slice
  | .map _ _ => some .map
  | .func _ _ _ => some .func
  | _ => none

theorem ekOf_fits {d : TypeDesc} {k : EK} (e : ekOf d = some k) : k.fits d = true := by
  cases d <;> simp [ekOf] at e <;> subst e <;> rfl

def compBin (P : Program) (op : BinOp) (t : TypeId) (x y : Operand) : Option AOp :=
  match P.underlying t with
  | some (.int _) | some .string => some (.bin op x y)
  | some (.struct _) =>
    if P.eqGuardType P.depth t = false ∧ isRowB P t = some true then
      match op, flatK P 20 t with
      | .eql, some ks => some (.eqAgg false ks x y)
      | .neq, some ks => some (.eqAgg true ks x y)
      | _, _ => none
    else none
  | some d => match op, ekOf d with
    | .eql, some k => some (.eqNil k false x y)
    | .neq, some k => some (.eqNil k true x y)
    | _, _ => none
  | none => none

def compConv (P : Program) (src dst : TypeId) (x : Operand) : Option AOp :=
  match P.underlying src, P.underlying dst with
  | some (.int _), some (.int k) => some (.conv (.int k) x)
  | some .string, some .string => some (.conv .same x)
  | some .string, some (.slice e) => if isU8 P e = true then some (.conv .toBytes x) else none
  | some (.slice e), some .string => if isU8 P e = true then some (.conv .toString x) else none
  | _, _ => none

def fieldOf (P : Program) (t : TypeId) (i : Nat) : Option Field :=
  match P.underlying t with
  | some (.struct fs) => fs[i]?
  | _ => none

def elOf (P : Program) (t : TypeId) : Option TypeId := match P.underlying t with | some (.slice e) => some e | _ => none
def mapOf (P : Program) (t : TypeId) : Option (TypeId × TypeId) := match P.underlying t with | some (.map k e) => some (k, e) | _ => none

/-- The zero value of a type, if it is closed. -/
def zeroV (P : Program) (t : TypeId) : Option Value :=
  match (P.info? t).bind (·.zero) with
  | some (.agg ⟨l⟩) => if l.all isKonst = true then some (.agg ⟨l⟩) else none
  | some v => if isKonst v = true then some v else none
  | none => none

def strT (P : Program) (t : TypeId) : Option Bool := (P.underlying t).bind isStrD
def ckT (P : Program) (t : TypeId) : Option CK := (P.underlying t).bind ckOf

def compBuiltin (P : Program) (b : Builtin) (args : List Operand) (ts : List TypeId) : Option AOp :=
  match b, args, ts with
  | .len, [x], [t] => match P.underlying t with
    | some .string => some (.lenStr x)
    | some (.slice _) => some (.lenSlice x)
    | some (.map _ _) => some (.lenMap x)
    | _ => none
  | .append, [d, x], [t, tx] => match elOf P t, strT P tx with
    | some e, some str => match zeroC P e, (P.info? e).map (·.bytes) with
      | some z, some by' => if 0 < by' then some (.append str z.length by' d x) else none
      | _, _ => none
    | _, _ => none
  | .copy, [d, x], [t, tx] => match elOf P t, strT P tx with
    | some e, some str => (szOf P e).map fun q => .copy str q d x
    | _, _ => none
  | .delete, [m, k], [t, _] => match mapOf P t with
    | some (kt, _) => (ckT P kt).map fun ck => .delete ck m k
    | none => none
  | .clear, [x], [t] => match elOf P t with
    | some e => match zeroC P e with
      | some z => if 0 < z.length then some (.clear z x) else none
      | none => none
    | none => none
  | .max, [x, y], _ => some (.minmax true x y)
  | .min, [x, y], _ => some (.minmax false x y)
  | _, _, _ => none

def compOp (P : Program) (o : Op) : Option AOp :=
  match o with
  | .move x | .assign x => some (.mv x)
  | .pick c x y => some (.pick c x y)
  | .alloc t => (zeroC P t).map .alloc
  | .box _ x => some (.box x)
  | .build t ps => match zeroC P t, placesOf P t with
    | some z, some place => (compParts place ps.toList).map fun l => .build z l
    | _, _ => none
  | .buildSlice t len ps => match elOf P t with
    | some e => match zeroC P e with
      | some z1 => if len * z1.length ≤ 2 ^ 24 then
          (compParts (fun i => some (i * z1.length, z1.length)) ps.toList).map fun l => .mkSlice z1.length len ((List.range (len * z1.length)).map fun i => z1.getD (i % z1.length) undef) l
        else none
      | none => none
    | none => none
  | .load t x => match isRowB P t with
    | some false => some (.load1 x)
    | some true => (szOf P t).map fun q => .loadN q x
    | none => none
  | .store t x y => (szOf P t).map fun q => .store q x y
  | .nilCheck x => some (.nilCheck x)
  | .binOp op t x y _ => compBin P op t x y
  | .unOp op _ x => some (.un op x)
  | .convert src dst x => compConv P src dst x
  | .makeFunc fn fs cs => some (.func fn fs.toList cs.toList)
  | .makeMap _ none => some .mkMap
  | .makeSlice t l c => match elOf P t with
    | some e => match zeroC P e, (P.info? e).map (·.bytes) with
      | some z, some by' => if 0 < z.length then some (.makeSlice z.length by' z l c) else none
      | _, _ => none
    | none => none
  | .slice t x lo hi none => match P.underlying t with
    | some (.slice e) => (szOf P e).map fun q => .slice q x lo hi
    | some .string => some (.sliceStr x lo hi)
    | _ => none
  | .fieldAddr t x i => match fieldOf P t i with
    | some f => match szOf P f.type with
      | some (_ + 1) => some (.fieldAddr x f.offset)
      | _ => none
    | none => none
  | .field t x i => match fieldOf P t i with
    | some f => match isRowB P f.type with
      | some true => (szOf P f.type).map fun q => .field x f.offset (some q)
      | some false => some (.field x f.offset none)
      | none => none
    | none => none
  | .indexAddr t x i => match elOf P t with
    | some e => (szOf P e).map fun q => .indexAddr q x i
    | none => none
  | .index t x i => if isStr P t = true then some (.indexStr x i) else none
  | .lookup t x k ok => match mapOf P t with
    | some (kt, et) => match ckT P kt, zeroV P et with
      | some ck, some z => some (.lookup ck z x k ok)
      | _, _ => none
    | none => none
  | .mapUpdate t m k v | .insert t m k v => match mapOf P t with
    | some (kt, _) => (ckT P kt).map fun ck => .mapUpd ck m k v
    | none => none
  | .extract x i => some (.extract x i)
  | .call { callee := .builtin b, args, argTypes } => compBuiltin P b args.toList argTypes.toList
  | _ => none

theorem fieldOf_some {t : TypeId} {i : Nat} {f : Field} (e : fieldOf P t i = some f) : ∃ fs, P.underlying t = some (.struct fs) ∧ fs[i]? = some f := by
  unfold fieldOf at e
  split at e
  · exact ⟨_, by assumption, e⟩
  · cases e
theorem elOf_some {t e : TypeId} (h : elOf P t = some e) : P.underlying t = some (.slice e) := by
  unfold elOf at h
  split at h
  · cases h; assumption
  · cases h
theorem mapOf_some {t : TypeId} {p : TypeId × TypeId} (h : mapOf P t = some p) : P.underlying t = some (.map p.1 p.2) := by
  unfold mapOf at h
  split at h
  · cases h; assumption
  · cases h

theorem strT_some {t : TypeId} {b : Bool} (h : strT P t = some b) : ∃ d, P.underlying t = some d ∧ isStrD d = some b := by
  unfold strT at h
  cases hu : P.underlying t with
  | none => rw [hu] at h; cases h
  | some d => rw [hu] at h; exact ⟨d, rfl, h⟩
theorem ckT_some {t : TypeId} {b : CK} (h : ckT P t = some b) : ∃ d, P.underlying t = some d ∧ ckOf d = some b := by
  unfold ckT at h
  cases hu : P.underlying t with
  | none => rw [hu] at h; cases h
  | some d => rw [hu] at h; exact ⟨d, rfl, h⟩
theorem isU8_some {t : TypeId} (h : isU8 P t = true) : P.underlying t = some (.int .u8) := by
  unfold isU8 at h
  split at h
  · assumption
  · cases h

theorem zeroV_run {t : TypeId} {z : Value} (e : zeroV P t = some z) : (∀ w, (zeroValue t).run P w = .ok z w) ∧ ∀ ρ, VR ρ z z := by
  unfold zeroV at e
  cases hi : P.info? t with
  | none => rw [hi] at e; simp at e
  | some i =>
    rw [hi] at e
    cases hz : i.zero with
    | none => simp [hz] at e
    | some q =>
      have hrun : ∀ w, (zeroValue t).run P w = .ok q w := fun w => by simp [zeroValue, typeInfo, hi, hz]
      simp only [Option.bind_some, hz] at e
      split at e
      · rename_i l hq
        cases hq
        split at e
        · cases e
          exact ⟨hrun, fun ρ => .agg (VRs.konst (by assumption))⟩
        · cases e
      · rename_i v _ hq
        cases hq
        split at e
        · cases e
          exact ⟨hrun, fun ρ => VR.konst (by assumption)⟩
        · cases e
      · cases ‹_ = none›

theorem partsOf_none {l : List (Nat × Nat × Operand)} {z : List Value} {f : List Value → Value × H} {v : Value} {h' : H} (e : (match partsOf s l with
    | some q => (fillL z q).map f
    | none => none) = some (v, h')) : ∃ q c, partsOf s l = some q ∧ fillL z q = some c ∧ f c = (v, h') := by
  cases h1 : partsOf s l with
  | none => rw [h1] at e; cases e
  | some q =>
    rw [h1] at e
    cases h2 : fillL z q with
    | none => simp [h2] at e
    | some c => simp [h2] at e; exact ⟨q, c, rfl, h2, e⟩

theorem list_arr {α : Type} {x : Array α} {l : List α} (h : x.toList = l) : x = l.toArray := by cases x; simp at h; subst h; rfl

set_option maxHeartbeats 4000000 in
theorem evBuiltin_sound (o : Oper) (c : Call) (hop : o.op = .call c) {ao : AOp} (hc : compOp P o.op = some ao) (r : Rel ρ h w) (he : EnvRel ρ n s a.tmps) {v : Value} {h' : H} (e : evOp ao s h = some (v, h')) : Good P o ρ h a w v h' := by
  rw [hop] at hc
  obtain ⟨callee, args, ts⟩ := c
  cases callee with
  | value f => simp [compOp] at hc
  | invoke x m => simp [compOp] at hc
  | builtin b =>
    simp only [compOp] at hc
    unfold compBuiltin at hc
    split at hc
    · -- len
      rename_i x t ha ht'
      obtain rfl := list_arr ha
      obtain rfl := list_arr ht'
      split at hc
      · rename_i ht
        cases hc
        simp only [evOp] at e
        split at e
        · rename_i b hx
          cases e
          exact good_lenStr o x t hop ht r he hx
        · cases e
      · rename_i el ht
        cases hc
        exact good_lenSlice o x t el hop ht r he e
      · rename_i k q ht
        cases hc
        obtain ⟨m, hm, hf⟩ := Option.map_eq_some_iff.1 e
        cases hf
        exact good_lenMap o x t k q hop ht r he hm
      · cases hc
    · -- append
      rename_i d x t tx ha ht'
      obtain rfl := list_arr ha
      obtain rfl := list_arr ht'
      split at hc
      · rename_i el str hel hstr
        split at hc
        · rename_i z by' hz hb
          split at hc
          · rename_i hb0
            cases hc
            obtain ⟨dd, hdd, hsd⟩ := strT_some hstr
            simp only [evOp] at e
            split at e
            · rename_i htext
              split at e
              · rename_i m new hsrc
                split at e
                · rename_i h1
                  exact good_append o t tx 0 el d x hop (elOf_some hel) hz hb hb0 hdd r he (srcKind_of hsd htext) hsrc h1 e
                · cases e
              · cases e
            · cases e
          · cases hc
        · cases hc
      · cases hc
    · -- copy
      rename_i d x t tx ha ht'
      obtain rfl := list_arr ha
      obtain rfl := list_arr ht'
      split at hc
      · rename_i el str hel hstr
        obtain ⟨q, hq, hf⟩ := Option.map_eq_some_iff.1 hc
        cases hf
        obtain ⟨dd, hdd, hsd⟩ := strT_some hstr
        have xd := aeval_sound he d
        simp only [evOp] at e
        split at e
        · rename_i htext
          split at e
          · rename_i p hd hsrc
            cases e
            rw [hd] at xd
            obtain ⟨_, _, e1⟩ := xd.snil_inv
            exact good_copyNil o t tx el d x hop (elOf_some hel) hq hdd r he (srcKind_of hsd htext) hsrc ⟨none, 0, e1⟩ rfl (by simp)
          · rename_i b oo m c k new hd hsrc
            split at e
            · rename_i h0
              cases e
              rw [hd] at xd
              obtain ⟨i, o', c', _, e1, _⟩ := xd.slice_inv
              exact good_copyNil o t tx el d x hop (elOf_some hel) hq hdd r he (srcKind_of hsd htext) hsrc ⟨_, _, e1⟩ rfl h0
            · rename_i h0
              split at e
              · rename_i h1
                obtain ⟨h2, hw, hf⟩ := Option.map_eq_some_iff.1 e
                cases hf
                exact good_copy o t tx el d x hop (elOf_some hel) hq hdd r he (srcKind_of hsd htext) hsrc h1 hd hw h0
              · cases e
          · cases e
        · cases e
      · cases hc
    · -- delete
      rename_i m k t tk ha ht'
      obtain rfl := list_arr ha
      obtain rfl := list_arr ht'
      split at hc
      · rename_i kt et hm
        have ht := mapOf_some hm
        obtain ⟨ck, hck, hf⟩ := Option.map_eq_some_iff.1 hc
        cases hf
        obtain ⟨kd, hkd, hcd⟩ := ckT_some hck
        simp only [evOp] at e
        split at e
        · rename_i hx
          split at e
          · rename_i hkey
            cases e
            exact good_deleteNil o t kt et tk m k hop ht hkd r he hx hkey (keyKind_of hcd hkey)
          · cases e
        · rename_i b hx
          split at e
          · rename_i es hb
            split at e
            · rename_i hkey
              split at e
              · rename_i i u hf
                cases e
                exact good_delete o t kt et tk m k hop ht hkd r he hx hb hkey (keyKind_of hcd hkey) hf rfl
              · rename_i hf
                cases e
                exact good_delete o t kt et tk m k hop ht hkd r he hx hb hkey (keyKind_of hcd hkey) hf rfl
              · cases e
            · cases e
          · cases e
        · cases e
      · cases hc
    · -- clear
      rename_i x t ha ht'
      obtain rfl := list_arr ha
      obtain rfl := list_arr ht'
      split at hc
      · rename_i el hel
        split at hc
        · rename_i z hz
          split at hc
          · rename_i hz0
            cases hc
            have xd := aeval_sound he x
            simp only [evOp] at e
            split at e
            · rename_i hx
              cases e
              rw [hx] at xd
              obtain ⟨_, _, e1⟩ := xd.snil_inv
              exact good_clearNone o t el x hop (elOf_some hel) r ⟨none, 0, e1⟩
            · rename_i b oo m c hx
              split at e
              · rename_i h0
                cases e
                rw [hx] at xd
                obtain ⟨i, o', c', _, e1, _⟩ := xd.slice_inv
                subst h0
                exact good_clearNone o t el x hop (elOf_some hel) r ⟨_, _, e1⟩
              · rename_i h0
                obtain ⟨h2, hw, hf⟩ := Option.map_eq_some_iff.1 e
                cases hf
                exact good_clear o t el x hop (elOf_some hel) hz hz0 r he hx h0 hw
            · cases e
          · cases hc
        · cases hc
      · cases hc
    · rename_i _ x y ha
      obtain rfl := list_arr ha
      cases hc
      simp only [evOp] at e
      split at e
      · rename_i k i k' j hx hy
        split at e
        · rename_i hk; subst hk
          cases e
          exact good_minmax o x y ts true hop r he hx hy
        · cases e
      · cases e
    · rename_i _ x y ha
      obtain rfl := list_arr ha
      cases hc
      simp only [evOp] at e
      split at e
      · rename_i k i k' j hx hy
        split at e
        · rename_i hk; subst hk
          cases e
          exact good_minmax o x y ts false hop r he hx hy
        · cases e
      · cases e
    · cases hc

set_option maxHeartbeats 4000000 in
/-- Each compact operation is the model's. -/
theorem evOp_sound (o : Oper) {ao : AOp} (hc : compOp P o.op = some ao) (r : Rel ρ h w) (he : EnvRel ρ n s a.tmps) {v : Value} {h' : H} (e : evOp ao s h = some (v, h')) : Good P o ρ h a w v h' := by
  cases hop : o.op with
  | move x =>
    rw [hop] at hc; simp [compOp] at hc; subst hc
    simp [evOp] at e; obtain ⟨rfl, rfl⟩ := e
    exact good_move o x (.inl hop) r he
  | assign x =>
    rw [hop] at hc; simp [compOp] at hc; subst hc
    simp [evOp] at e; obtain ⟨rfl, rfl⟩ := e
    exact good_move o x (.inr hop) r he
  | pick c x y =>
    rw [hop] at hc; simp [compOp] at hc; subst hc
    simp only [evOp] at e
    split at e
    · rename_i t ht
      simp at e; obtain ⟨rfl, rfl⟩ := e
      exact good_pick o c x y hop r he ht
    · cases e
  | alloc t =>
    rw [hop] at hc; simp [compOp] at hc
    obtain ⟨z, hz, rfl⟩ := hc
    simp [evOp] at e; obtain ⟨rfl, rfl⟩ := e
    exact good_alloc o t hop hz r
  | box t x =>
    rw [hop] at hc; simp [compOp] at hc; subst hc
    obtain ⟨l, hl, hf⟩ := Option.map_eq_some_iff.1 e
    cases hf
    exact good_box o t x hop r he hl
  | build t ps =>
    rw [hop] at hc; simp only [compOp] at hc
    split at hc
    · rename_i z place hz hp
      simp at hc
      obtain ⟨l, hl, rfl⟩ := hc
      simp only [evOp] at e
      obtain ⟨q, c, g1, g2, g3⟩ := partsOf_none e
      simp at g3; obtain ⟨rfl, rfl⟩ := g3
      exact good_build o t ps hop hz hp hl r he g1 g2
    · cases hc
  | buildSlice t len ps =>
    rw [hop] at hc; simp only [compOp] at hc
    split at hc
    · rename_i el hel
      split at hc
      · rename_i z1 hz
        split at hc
        · rename_i hsm
          simp at hc
          obtain ⟨l, hl, rfl⟩ := hc
          simp only [evOp] at e
          obtain ⟨q, c, g1, g2, g3⟩ := partsOf_none e
          simp at g3; obtain ⟨rfl, rfl⟩ := g3
          exact good_mkSlice o t el len ps hop (elOf_some hel) hz hsm hl rfl r he g1 g2
        · cases hc
      · cases hc
    · cases hc
  | load t x =>
    rw [hop] at hc; simp only [compOp] at hc
    split at hc
    · rename_i hb
      cases hc
      simp only [evOp] at e
      split at e
      · rename_i b q hx
        cases hl : (rd h b q 1).bind one? with
        | none => rw [hl] at e; cases e
        | some u => rw [hl] at e; simp at e; obtain ⟨rfl, rfl⟩ := e; exact good_load1 o t x hop hb r he hx hl
      · cases e
    · rename_i hb
      simp at hc
      obtain ⟨m, hm, rfl⟩ := hc
      simp only [evOp] at e
      split at e
      · rename_i b q hx
        obtain ⟨l, hl, hf⟩ := Option.map_eq_some_iff.1 e
        cases hf
        exact good_loadN o t x hop hb hm r he hx hl
      · cases e
    · cases hc
  | store t x y =>
    rw [hop] at hc; simp [compOp] at hc
    obtain ⟨m, hm, rfl⟩ := hc
    simp only [evOp] at e
    split at e
    · rename_i b q l hx hl
      split at e
      · rename_i hlen
        obtain ⟨h2, hw, hf⟩ := Option.map_eq_some_iff.1 e
        cases hf
        exact good_store o t x y hop hm r he hx hl hlen hw
      · cases e
    · cases e
  | nilCheck x =>
    rw [hop] at hc; simp [compOp] at hc; subst hc
    exact good_nilCheck o x hop r he e
  | binOp op t x y ty =>
    rw [hop] at hc; simp only [compOp, compBin] at hc
    split at hc
    · cases hc
      obtain ⟨q, hq, hf⟩ := Option.map_eq_some_iff.1 e
      cases hf
      exact good_bin o op t ty x y hop r he hq
    · cases hc
      obtain ⟨q, hq, hf⟩ := Option.map_eq_some_iff.1 e
      cases hf
      exact good_bin o op t ty x y hop r he hq
    · split at hc
      · rename_i hg
        split at hc
        · rename_i ks hk
          cases hc
          simp only [evOp] at e
          split at e
          · rename_i u u' hu hu'
            obtain ⟨q, hq, hf⟩ := Option.map_eq_some_iff.1 e
            cases hf
            exact good_eqAgg o false t ty x y hop hk hg.1 r he hu hu' hq hg.2
          · cases e
        · rename_i ks hk
          cases hc
          simp only [evOp] at e
          split at e
          · rename_i u u' hu hu'
            obtain ⟨q, hq, hf⟩ := Option.map_eq_some_iff.1 e
            cases hf
            exact good_eqAgg o true t ty x y hop hk hg.1 r he hu hu' hq hg.2
          · cases e
        · cases hc
      · cases hc
    · rename_i d _ _ _ hd
      split at hc
      · rename_i k hk
        cases hc
        obtain ⟨q, hq, hf⟩ := Option.map_eq_some_iff.1 e
        cases hf
        exact good_eqNil o false t ty x y hop hd (ekOf_fits hk) r he hq
      · rename_i k hk
        cases hc
        obtain ⟨q, hq, hf⟩ := Option.map_eq_some_iff.1 e
        cases hf
        exact good_eqNil o true t ty x y hop hd (ekOf_fits hk) r he hq
      · cases hc
    · cases hc
  | unOp op t x =>
    rw [hop] at hc; simp [compOp] at hc; subst hc
    obtain ⟨q, hq, hf⟩ := Option.map_eq_some_iff.1 e
    cases hf
    exact good_un o op t x hop r he hq
  | convert src dst x =>
    rw [hop] at hc; simp only [compOp, compConv] at hc
    split at hc
    · rename_i hs hd
      cases hc
      cases hx : aeval s x <;> simp [evOp, hx] at e
      obtain ⟨rfl, rfl⟩ := e
      exact good_convInt o src dst x hop hs hd r he hx
    · rename_i hs hd
      cases hc
      cases hx : aeval s x <;> simp [evOp, hx] at e
      obtain ⟨rfl, rfl⟩ := e
      exact good_convSame o src dst x hop hs hd rfl r he hx
    · rename_i el hs hd
      split at hc
      · rename_i hu
        cases hc
        cases hx : aeval s x <;> simp [evOp, hx] at e
        obtain ⟨rfl, rfl⟩ := e
        exact good_toBytes o src dst el x hop hs hd (isU8_some hu) r he hx
      · cases hc
    · rename_i el hs hd
      split at hc
      · rename_i hu
        cases hc
        exact good_toString o src dst el x hop hs (isU8_some hu) hd r he e
      · cases hc
    · cases hc
  | makeFunc fn fs cs =>
    rw [hop] at hc; simp [compOp] at hc; subst hc
    simp [evOp] at e; obtain ⟨rfl, rfl⟩ := e
    have := good_func (P := P) (h := h) (w := w) o fn fs cs hop r he
    simpa using this
  | makeMap t q =>
    rw [hop] at hc
    cases q with
    | none =>
      simp [compOp] at hc; subst hc
      simp [evOp] at e; obtain ⟨rfl, rfl⟩ := e
      exact good_mkMap o t hop r
    | some q => simp [compOp] at hc
  | makeSlice t l c =>
    rw [hop] at hc; simp only [compOp] at hc
    split at hc
    · rename_i el hel
      split at hc
      · rename_i z by' hz hb
        split at hc
        · rename_i hz0
          cases hc
          simp only [evOp] at e
          split at e
          · rename_i i j hi hj
            split at e
            · rename_i hcond
              cases e
              exact good_makeSlice o t el l c hop (elOf_some hel) hz hz0 hb r he hi hj hcond.1 hcond.2.1 hcond.2.2.1 hcond.2.2.2.1
            · cases e
          · cases e
        · cases hc
      · cases hc
    · cases hc
  | slice t x lo hi mx =>
    rw [hop] at hc
    cases mx with
    | some q => simp [compOp] at hc
    | none =>
      simp only [compOp] at hc
      split at hc
      · rename_i el hel
        obtain ⟨q, hq, hf⟩ := Option.map_eq_some_iff.1 hc
        cases hf
        simp only [evOp] at e
        split at e
        · rename_i hx
          split at e
          · rename_i z hz
            split at e
            · rename_i p hp
              split at e
              · rename_i hcond
                cases e
                exact good_sliceNil o t x lo hi hop hel hq r he hx hz hp hcond.1 hcond.2
              · cases e
            · cases e
          · cases e
        · rename_i b oo m c hx
          split at e
          · rename_i z hz
            split at e
            · rename_i p hp
              split at e
              · rename_i hcond
                cases e
                exact good_slice o t x lo hi hop hel hq r he hx hz hp hcond.1 hcond.2
              · cases e
            · cases e
          · cases e
        · cases e
      · rename_i hel
        cases hc
        simp only [evOp] at e
        split at e
        · rename_i b hx
          split at e
          · rename_i z hz
            split at e
            · rename_i p hp
              split at e
              · rename_i hcond
                cases e
                exact good_sliceStr o t x lo hi hop hel r he hx hz hp hcond.1 hcond.2
              · cases e
            · cases e
          · cases e
        · cases e
      · cases hc
  | fieldAddr t x i =>
    rw [hop] at hc; simp only [compOp] at hc
    split at hc
    · rename_i f hf
      obtain ⟨fs, h1, h2⟩ := fieldOf_some hf
      split at hc
      · rename_i m hm
        cases hc
        simp only [evOp] at e
        split at e
        · rename_i b q hx
          cases e
          exact good_fieldAddr o t x i hop h1 h2 hm r he hx
        · cases e
      · cases hc
    · cases hc
  | field t x i =>
    rw [hop] at hc; simp only [compOp] at hc
    split at hc
    · rename_i f hf
      obtain ⟨fs, h1, h2⟩ := fieldOf_some hf
      split at hc
      · rename_i hb
        obtain ⟨q, hq, hff⟩ := Option.map_eq_some_iff.1 hc
        cases hff
        simp only [evOp] at e
        split at e
        · rename_i l hx
          cases e
          exact good_fieldRow o t x i hop h1 h2 hb hq r he hx
        · cases e
      · rename_i hb
        cases hc
        simp only [evOp] at e
        split at e
        · rename_i l hx
          obtain ⟨q, hq, hff⟩ := Option.map_eq_some_iff.1 e
          cases hff
          exact good_fieldCell o t x i hop h1 h2 hb r he hx hq
        · cases e
      · cases hc
    · cases hc
  | indexAddr t x i =>
    rw [hop] at hc; simp only [compOp] at hc
    split at hc
    · rename_i el hel
      obtain ⟨q, hq, hf⟩ := Option.map_eq_some_iff.1 hc
      cases hf
      simp only [evOp] at e
      split at e
      · rename_i b oo m c k j hx hi
        split at e
        · rename_i hcond
          cases e
          exact good_indexAddr o t x i hop (elOf_some hel) hq r he hx hi hcond.1 hcond.2
        · cases e
      · cases e
    · cases hc
  | index t x i =>
    rw [hop] at hc; simp only [compOp] at hc
    split at hc
    · rename_i hs
      cases hc
      have ht : P.underlying t = some .string := by
        unfold isStr at hs
        split at hs
        · assumption
        · cases hs
      simp only [evOp] at e
      split at e
      · rename_i b k j hx hi
        split at e
        · rename_i h0
          obtain ⟨q, hq, hf⟩ := Option.map_eq_some_iff.1 e
          cases hf
          exact good_indexStr o t x i hop ht r he hx hi h0 hq
        · cases e
      · cases e
    · cases hc
  | lookup t x k ok =>
    rw [hop] at hc; simp only [compOp] at hc
    split at hc
    · rename_i kt et hm
      have ht := mapOf_some hm
      split at hc
      · rename_i ck z hck hz
        cases hc
        obtain ⟨kd, hkd, hcd⟩ := ckT_some hck
        obtain ⟨z1, z2⟩ := zeroV_run hz
        simp only [evOp] at e
        split at e
        · rename_i es hes
          split at e
          · rename_i hkey
            split at e
            · rename_i i u hf
              cases e
              exact good_lookup o t kt et x k ok hop ht hkd z1 (z2 _) r he hes hkey (keyKind_of hcd hkey) hf rfl
            · rename_i hf
              cases e
              exact good_lookup o t kt et x k ok hop ht hkd z1 (z2 _) r he hes hkey (keyKind_of hcd hkey) hf rfl
            · cases e
          · cases e
        · cases e
      · cases hc
    · cases hc
  | mapUpdate t m k y =>
    rw [hop] at hc; simp only [compOp] at hc
    split at hc
    · rename_i kt et hm
      have ht := mapOf_some hm
      obtain ⟨ck, hck, hf⟩ := Option.map_eq_some_iff.1 hc
      cases hf
      obtain ⟨kd, hkd, hcd⟩ := ckT_some hck
      simp only [evOp] at e
      split at e
      · rename_i b hx
        split at e
        · rename_i es hb
          split at e
          · rename_i hkey
            split at e
            · rename_i i u hf
              cases e
              exact good_mapUpd o t kt et m k y (.inl hop) ht hkd r he hx hb hkey (keyKind_of hcd hkey) hf rfl
            · rename_i hf
              cases e
              exact good_mapUpd o t kt et m k y (.inl hop) ht hkd r he hx hb hkey (keyKind_of hcd hkey) hf rfl
            · cases e
          · cases e
        · cases e
      · cases e
    · cases hc
  | insert t m k y =>
    rw [hop] at hc; simp only [compOp] at hc
    split at hc
    · rename_i kt et hm
      have ht := mapOf_some hm
      obtain ⟨ck, hck, hf⟩ := Option.map_eq_some_iff.1 hc
      cases hf
      obtain ⟨kd, hkd, hcd⟩ := ckT_some hck
      simp only [evOp] at e
      split at e
      · rename_i b hx
        split at e
        · rename_i es hb
          split at e
          · rename_i hkey
            split at e
            · rename_i i u hf
              cases e
              exact good_mapUpd o t kt et m k y (.inr hop) ht hkd r he hx hb hkey (keyKind_of hcd hkey) hf rfl
            · rename_i hf
              cases e
              exact good_mapUpd o t kt et m k y (.inr hop) ht hkd r he hx hb hkey (keyKind_of hcd hkey) hf rfl
            · cases e
          · cases e
        · cases e
      · cases e
    · cases hc
  | extract x i =>
    rw [hop] at hc; simp [compOp] at hc; subst hc
    simp only [evOp] at e
    split at e
    · rename_i l hx
      obtain ⟨q, hq, hf⟩ := Option.map_eq_some_iff.1 e
      cases hf
      exact good_extract o x i hop r he hx hq
    · cases e
  | call c => exact evBuiltin_sound o c hop hc r he e
  | _ => rw [hop] at hc; simp [compOp] at hc

end Go.Ev
