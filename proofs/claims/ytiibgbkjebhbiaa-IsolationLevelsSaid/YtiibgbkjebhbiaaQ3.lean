/-
  The abstract machine: one operation, a region, a text; each is sound.
  Part of a proof about the program's own text; written by an AI agent. No statement is proved here: the lemmas that the last text needs.
-/
import Derived.Test.YtiibgbkjebhbiaaQ2
namespace Qa
open Go

def lenT (T : Ty) (t : TypeId) (x : D) (K : D → Prop) : Prop :=
  match (T t).d with
  | .slice _ _ _ => match x with
    | .p (.str _) => stuckP "len"
    | .vec _ _ _ _ n => K (.p (.int .i64 (n : Int)))
    | x => lenK x K
  | .str => match x with
    | .p (.str s) => K (.p (.int .i64 (s.size : Int)))
    | _ => stuckP "len"
  | _ => stuckP "len"

theorem lenT_sound {P : Program} {T : Ty} (hT : TyOk P T) {t : TypeId} (x : Operand) {A : Tmps} {K : D → Prop}
    (h : lenT T t (ev A x) K) : ∃ d, K d ∧ ∀ (nx : Ids) (H : Heap), OpOut P (.call { callee := .builtin .len, args := #[x], argTypes := #[t] }) A H nx d H nx := by
  unfold lenT at h
  split at h
  · rename_i e s b ht
    split at h
    · simp [stuckP] at h
    · rename_i b' ver sz lo n hx
      exact ⟨_, h, fun nx H => lenV_sound hT x ⟨_, _, _, ht⟩ hx nx H⟩
    · rename_i hne hne2
      exact lenK_sound hT x (.inl ⟨⟨e, s, b, ht⟩, fun s hs => hne s hs⟩) h
  · rename_i ht
    split at h
    · rename_i s hx
      exact lenK_sound hT x (.inr ⟨ht, s, hx⟩) (by rw [hx]; exact h)
    · simp [stuckP] at h
  · simp [stuckP] at h

def FnOk (P : Program) (f : Nat) : Prop := ∃ fn, P.funcs[f]? = some fn ∧ fn.body.isSome = true ∧ (fn.name == "runtime.NumGoroutine") = false

/-- a call from any state with this heap. -/
def CallOut (P : Program) (f : Nat) (args : List D) (H : Heap) (nx : Ids) (d : D) (H' : Heap) (nx' : Ids) : Prop :=
  FnOk P f ∧ nx.le nx' ∧ ∀ (n0 : Nat) (d0 F : Nat → Prop) (c : Cx) (w : World) (vs : List Value), RdL c w args vs → underL nx args = true → WRel n0 d0 H nx c F w →
    Calls P f vs.toArray w fun e w' => ∃ v c', e = .returned v ∧ d.under nx' = true ∧ Rd c' w' d v ∧ WRel n0 d0 H' nx' c' F w' ∧ Step nx c w c' w' ∧ Later n0 d0 F c w c' w'

def hsets (H : Heap) : List (Nat × Blk) → Heap
  | [] => H
  | (b, k) :: r => hsets (hset H b k) r

/-- a call, as the walk meets it. -/
@[irreducible] def callP (P : Program) (f : Nat) (args : List D) (H : Heap) (nx : Nat) (K : D → Heap → Nat → Fp → Prop) : Prop :=
  ∃ (d : D) (W : List (Nat × Blk)) (nx' : Nat) (ids : List Nat), nx ≤ nx' ∧
    (∀ (H2 : Heap) (V : Ids), (∀ b ∈ ids, H2 b = H b) → (∀ b, nx ≤ b → b < nx' → V b = false) → CallOut P f args H2 V d (hsets H2 W) (iups V nx nx')) ∧ K d (hsets H W) nx' ⟨ids, W.map (·.1)⟩

/-- append, by the kind of its first argument. -/
def appM (T : Ty) (t t2 : Nat) (s x : D) (H : Heap) (nx : Nat) (K : D → Heap → Nat → Fp → Prop) : Prop :=
  match s with
  | .vec b ver sz lo n => appV T t t2 b ver sz lo n x H nx K
  | .nilsl => match Nat.beq (T t).mode 2 with
    | true => nilV T t t2 x H nx K
    | false => appK T t t2 .nilsl x H nx K
  | .full xs => match Nat.beq (T t).mode 1 with
    | true => fullA T t t2 xs x H nx K
    | false => appK T t t2 (.full xs) x H nx K
  | s => appK T t t2 s x H nx K

def builtinK (T : Ty) (b : Builtin) (args : List Operand) (ts : List TypeId) (A : Tmps) (H : Heap) (nx : Nat) (K : D → Heap → Nat → Fp → Prop) : Prop :=
  match b with
  | .len => match args with
    | [x] => match ts with
      | [t] => lenT T t (ev A x) fun d => K d H nx fp0
      | _ => stuckP "len"
    | _ => stuckP "len"
  | .append => match args with
    | [s, x] => match ts with
      | [t, t2] => appM T t t2 (ev A s) (ev A x) H nx K
      | _ => stuckP "append"
    | _ => stuckP "append"
  | .max => match args with
    | [x, y] => minmaxK true (ev A x) (ev A y) fun d => K d H nx fp0
    | _ => stuckP "max"
  | .min => match args with
    | [x, y] => minmaxK false (ev A x) (ev A y) fun d => K d H nx fp0
    | _ => stuckP "min"
  | .clear => match args with
    | [x] => match ts with
      | [t] => match ev A x with
        | .vec b ver sz lo n => clearV T t b ver sz lo n H fun d H fp => K d H nx fp
        | _ => stuckP "clear"
      | _ => stuckP "clear"
    | _ => stuckP "clear"
  | _ => stuckP "builtin"

def callK (P : Program) (T : Ty) (c : Call) (A : Tmps) (H : Heap) (nx : Nat) (K : D → Heap → Nat → Fp → Prop) : Prop :=
  match c.callee with
  | .builtin b => builtinK T b c.args.toList c.argTypes.toList A H nx K
  | .value f => match ev A f with
    | .fn f first cap => callP P f (first ++ evL A c.args.toList ++ cap) H nx K
    | _ => stuckP "call: no known function"
  | .invoke _ _ => stuckP "invoke"

def op1 (P : Program) (T : Ty) (o : Op) (A : Tmps) (H : Heap) (nx : Nat) (K : D → Heap → Nat → Fp → Prop) : Prop :=
  match o with
  | .move x => force (ev A x) fun d => K d H nx fp0
  | .assign x => force (ev A x) fun d => K d H nx fp0
  | .pick c a b => pickK (ev A c) (ev A a) (ev A b) fun d => K d H nx fp0
  | .alloc t => match (T t).good with
    | true => K (.ref nx 0) (hset H nx (.cells t (T t).zero)) (nx + 1) ⟨[], [nx]⟩
    | false => stuckP "alloc"
  | .box t x => match allOne (ev A x).cells with
    | true => K (.ref nx 0) (hset H nx (.cells t (ev A x).cells)) (nx + 1) ⟨[], [nx]⟩
    | false => stuckP "box"
  | .load t a => match ev A a with
    | .vref b ver sz i => loadV T t b ver sz i H fun d fp => K d H nx fp
    | a => loadK T t a H fun d fp => K d H nx fp
  | .store t a x => match ev A a with
    | .vref b ver sz i => storeV T t b ver sz i (ev A x) H fun H fp => K (.tup []) H nx fp
    | a => storeK T t a (ev A x) H fun H fp => K (.tup []) H nx fp
  | .fieldAddr s x j => fieldK T s (ev A x) j fun d => K d H nx fp0
  | .nilCheck x => nilK (ev A x) fun d => K d H nx fp0
  | .binOp op t x y _ => match ev A x with
    | .p (.agg as) => binAgg P t op as (ev A y) fun d => K d H nx fp0
    | x => binK T t op x (ev A y) fun d => K d H nx fp0
  | .unOp op _ x => unK op (ev A x) fun d => K d H nx fp0
  | .convert s d x => convK T s d (ev A x) fun d => K d H nx fp0
  | .indexAddr t x i => match ev A x with
    | .vec b ver sz lo n => indexV T t b ver sz lo n (ev A i) H fun d fp => K d H nx fp
    | x => indexK T t x (ev A i) fun d => K d H nx fp0
  | .extract t i => extractK (ev A t) i fun d => K d H nx fp0
  | .makeFunc fn first cap => mkFnK fn first.toList cap.toList A fun d => K d H nx fp0
  | .buildSlice t len parts => match Nat.beq (T t).mode 2 with
    | true => bsV T t len parts.toList A H nx K
    | false => bsK T t len parts.toList A fun d => K d H nx fp0
  | .build t parts => buildK T t parts.toList A fun d => K d H nx fp0
  | .slice t x lo hi mx => match ev A x with
    | .vec b ver sz l n => sliceV T t b ver sz l n lo hi mx A H fun d fp => K d H nx fp
    | x => sliceK T t x lo hi mx A fun d => K d H nx fp0
  | .makeSlice t l c => makeK T t (ev A l) (ev A c) H nx K
  | .index t x i => idxK T t (ev A x) (ev A i) fun d => K d H nx fp0
  | .call c => callK P T c A H nx K
  | .makeMap t r => match r with
    | none => makeMapK T t H nx K
    | some _ => stuckP "makeMap: size"
  | .insert t m k v => updMapK T t (ev A m) (ev A k) (ev A v) H fun H fp => K (.tup []) H nx fp
  | .mapUpdate t m k v => updMapK T t (ev A m) (ev A k) (ev A v) H fun H fp => K (.tup []) H nx fp
  | .lookup t x i ok => lookMapK T t (ev A x) (ev A i) ok H fun d fp => K d H nx fp
  | _ => stuckP "operation"

theorem call_sound {P : Program} {f : Nat} {A : Tmps} {H H' : Heap} {nx nx' : Ids} {d : D} {g : Operand} {args : Array Operand} {ts : Array TypeId} {first cap : List D}
    (hg : ev A g = .fn f first cap) (h : CallOut P f (first ++ evL A args.toList ++ cap) H nx d H' nx') :
    OpOut P (.call { callee := .value g, args := args, argTypes := ts }) A H nx d H' nx' := by
  obtain ⟨⟨fn, hf, hb, hn⟩, hle, hc⟩ := h
  refine ⟨hle, fun oo n0 d0 F c a w ho he hw Q K hK => ?_⟩
  obtain ⟨hrg, hug⟩ := he g (by simp [Op.operands, Call.operands])
  rw [hg] at hrg hug
  obtain ⟨as, bs, hv, hra, hrb⟩ := hrg
  obtain ⟨hr, hu⟩ := RdL_evL (c := c) (w := w) (nx := nx) (A := A) (a := a) args.toList fun x hx => he x (by simp [Op.operands, Call.operands]; exact .inr (by simpa using hx))
  have hua : underL nx first = true ∧ underL nx cap = true := by simpa [D.under] using hug
  have hcl := hc n0 d0 F c w (as ++ args.toList.map a.eval ++ bs) (RdL_append (RdL_append hra hr) hrb) (underL_append (underL_append hua.1 hu) hua.2) hw
  unfold Oper.wp
  have hx : (execOp a.eval oo).run P w = .ok (.enter f (as ++ args.toList.map a.eval ++ bs).toArray) w := by
    unfold execOp
    simp only [ho, resolve, hv, Deferred.ofValue, invoke, callFunc, Sem.run_bind, Sem.run_pure, Result.andThen_ok, program, Sem.run, hf, hn, Bool.false_eq_true, if_false]
    have : fn.body.isNone = false := by cases hbb : fn.body <;> simp_all
    simp [this]
  rw [hx]
  refine hcl.mono fun e w' ⟨v, c', he, h1, h2, h3, h4, h5⟩ => ?_
  subst he
  exact hK v w' ⟨h1, c', h2, h3, h4, h5⟩

theorem appM_loc {P : Program} {T : Ty} (hT : TyOk P T) {t t2 : Nat} {s x : Operand} {A : Tmps} {H : Heap} {nx : Nat} {K : D → Heap → Nat → Fp → Prop} (h : appM T t t2 (ev A s) (ev A x) H nx K) :
    ∃ d W nx' fp, K d (hsets H W) nx' fp ∧ nx ≤ nx' ∧ (∀ x ∈ W, x.1 ∈ fp.w) ∧
      ∀ (H2 : Heap) (V : Ids), (∀ b ∈ fp.r ++ fp.w, H2 b = H b) → (∀ b, nx ≤ b → b < nx' → V b = false) →
        OpOut P (.call { callee := .builtin .append, args := #[s, x], argTypes := #[t, t2] }) A H2 V d (hsets H2 W) (iups V nx nx') := by
  have fr : ∀ {V : Ids}, (∀ b, nx ≤ b → b < nx + 1 → V b = false) → V nx = false := fun h => h nx (Nat.le_refl _) (Nat.lt_succ_self _)
  unfold appM at h
  split at h
  · rename_i hs
    obtain ⟨d, b, blk, fp, hk, hfw, ho⟩ := appV_sound hT (P := P) hs h
    exact ⟨d, [(b, blk)], _, fp, hk, Nat.le_refl _, by simp [hfw], fun H2 V hH _ => by rw [iups_same]; exact ho V H2 hH⟩
  · rename_i hs
    split at h
    · obtain ⟨d, blk, fp, hk, hfw, ho⟩ := nilV_sound hT (P := P) hs h
      exact ⟨d, [(nx, blk)], _, fp, hk, Nat.le_succ _, by simp [hfw], fun H2 V hH hf => by rw [iups_succ]; exact ho V H2 (fun b hb => hH b (by simp [hb])) (fr hf)⟩
    · rw [← hs] at h
      obtain ⟨d, W, nx', fp, hk, hW, hle, ho⟩ := appK_sound hT (P := P) h
      cases W with
      | none => exact ⟨d, [], nx', fp, hk, hle, by simp, ho⟩
      | some x => exact ⟨d, [x], nx', fp, hk, hle, by simpa using hW x.1 x.2 rfl, ho⟩
  · rename_i xs hs
    split at h
    · obtain ⟨d, blk, fp, hk, hfw, ho⟩ := fullA_sound hT (P := P) hs h
      exact ⟨d, [(nx, blk)], _, fp, hk, Nat.le_succ _, by simp [hfw], fun H2 V hH hf => by rw [iups_succ]; exact ho V H2 (fun b hb => hH b (by simp [hb])) (fr hf)⟩
    · rw [← hs] at h
      obtain ⟨d, W, nx', fp, hk, hW, hle, ho⟩ := appK_sound hT (P := P) h
      cases W with
      | none => exact ⟨d, [], nx', fp, hk, hle, by simp, ho⟩
      | some x => exact ⟨d, [x], nx', fp, hk, hle, by simpa using hW x.1 x.2 rfl, ho⟩
  · obtain ⟨d, W, nx', fp, hk, hW, hle, ho⟩ := appK_sound hT (P := P) h
    cases W with
    | none => exact ⟨d, [], nx', fp, hk, hle, by simp, ho⟩
    | some x => exact ⟨d, [x], nx', fp, hk, hle, by simpa using hW x.1 x.2 rfl, ho⟩

/-- the outcome of an operation, at every heap that agrees where it looks. -/
theorem op1_loc {P : Program} {T : Ty} (hT : TyOk P T) {o : Op} {A : Tmps} {H : Heap} {nx : Nat} {K : D → Heap → Nat → Fp → Prop} (h : op1 P T o A H nx K) :
    ∃ d W nx' fp, K d (hsets H W) nx' fp ∧ nx ≤ nx' ∧ (∀ x ∈ W, x.1 ∈ fp.w) ∧
      ∀ (H2 : Heap) (V : Ids), (∀ b ∈ fp.r ++ fp.w, H2 b = H b) → (∀ b, nx ≤ b → b < nx' → V b = false) → OpOut P o A H2 V d (hsets H2 W) (iups V nx nx') := by
  have pure_ : ∀ {d : D} {fp : Fp}, K d H nx fp → (∀ (V : Ids) (H : Heap), OpOut P o A H V d H V) → ∃ d W nx' fp, K d (hsets H W) nx' fp ∧ nx ≤ nx' ∧ (∀ x ∈ W, x.1 ∈ fp.w) ∧
      ∀ (H2 : Heap) (V : Ids), (∀ b ∈ fp.r ++ fp.w, H2 b = H b) → (∀ b, nx ≤ b → b < nx' → V b = false) → OpOut P o A H2 V d (hsets H2 W) (iups V nx nx') :=
    fun hk ho => ⟨_, [], _, _, hk, Nat.le_refl _, by simp, fun H2 V _ _ => by rw [iups_same]; exact ho V H2⟩
  have same : ∀ {d : D} {H2 H3 : Heap} {V : Ids}, OpOut P o A H2 V d H3 V → OpOut P o A H2 V d H3 (iups V nx nx) := fun h => by rw [iups_same]; exact h
  have next : ∀ {d : D} {H2 H3 : Heap} {V : Ids}, OpOut P o A H2 V d H3 (iadd V nx) → OpOut P o A H2 V d H3 (iups V nx (nx + 1)) := fun h => by rw [iups_succ]; exact h
  have fr : ∀ {V : Ids}, (∀ b, nx ≤ b → b < nx + 1 → V b = false) → V nx = false := fun h => h nx (Nat.le_refl _) (Nat.lt_succ_self _)
  unfold op1 at h
  split at h
  · rw [force_iff] at h; exact pure_ h fun V H => move_sound (.inl rfl)
  · rw [force_iff] at h; exact pure_ h fun V H => move_sound (.inr rfl)
  · obtain ⟨d, hd, ho⟩ := pickK_sound (P := P) h; exact pure_ hd ho
  · split at h
    · rename_i hg; exact ⟨_, [(nx, _)], _, _, h, Nat.le_succ _, by simp, fun H2 V _ hf => next (alloc_sound hT (fr hf) (TI.good_ne hg))⟩
    · simp [stuckP] at h
  · split at h
    · rename_i hg; exact ⟨_, [(nx, _)], _, _, h, Nat.le_succ _, by simp, fun H2 V _ hf => next (box_sound (fr hf) hg)⟩
    · simp [stuckP] at h
  · split at h
    · rename_i hx
      obtain ⟨d, fp, hd, ho⟩ := loadV_sound hT (P := P) hx h
      exact ⟨_, [], _, _, hd, Nat.le_refl _, by simp, fun H2 V hH _ => same (ho V H2 hH)⟩
    · obtain ⟨d, fp, hd, ho⟩ := loadK_sound hT (P := P) h
      exact ⟨_, [], _, _, hd, Nat.le_refl _, by simp, fun H2 V hH _ => same (ho V H2 hH)⟩
  · split at h
    · rename_i hx
      obtain ⟨b, blk, hd, ho⟩ := storeV_sound hT (P := P) hx h; exact ⟨_, [(b, blk)], _, _, hd, Nat.le_refl _, by simp, fun H2 V hH _ => same (ho V H2 (hH b (by simp)))⟩
    · obtain ⟨b, blk, hd, ho⟩ := storeK_sound hT (P := P) h; exact ⟨_, [(b, blk)], _, _, hd, Nat.le_refl _, by simp, fun H2 V hH _ => same (ho V H2 (hH b (by simp)))⟩
  · obtain ⟨d, hd, ho⟩ := fieldK_sound hT (P := P) h; exact pure_ hd ho
  · obtain ⟨d, hd, ho⟩ := nilK_sound (P := P) h; exact pure_ hd ho
  · split at h
    · rename_i hx
      obtain ⟨d, hd, ho⟩ := binAgg_sound (P := P) hx h; exact pure_ hd ho
    · obtain ⟨d, hd, ho⟩ := binK_sound hT (P := P) h; exact pure_ hd ho
  · obtain ⟨d, hd, ho⟩ := unK_sound (P := P) h; exact pure_ hd ho
  · obtain ⟨d, hd, ho⟩ := convK_sound hT (P := P) h; exact pure_ hd ho
  · split at h
    · rename_i hx
      obtain ⟨d, fp, hd, ho⟩ := indexV_sound hT (P := P) hx h
      exact ⟨_, [], _, _, hd, Nat.le_refl _, by simp, fun H2 V hH _ => same (ho V H2 hH)⟩
    · obtain ⟨d, hd, ho⟩ := indexK_sound hT (P := P) h; exact pure_ hd ho
  · obtain ⟨d, hd, ho⟩ := extractK_sound (P := P) h; exact pure_ hd ho
  · obtain ⟨d, hd, ho⟩ := mkFnK_sound (P := P) h; exact pure_ hd ho
  · split at h
    · obtain ⟨d, blk, hd, ho⟩ := bsV_sound hT (P := P) h
      exact ⟨_, [(nx, blk)], _, _, hd, Nat.le_succ _, by simp, fun H2 V _ hf => next (ho V H2 (fr hf))⟩
    · obtain ⟨d, hd, ho⟩ := bsK_sound hT (P := P) h; exact pure_ hd ho
  · obtain ⟨d, hd, ho⟩ := buildK_sound hT (P := P) h; exact pure_ hd ho
  · split at h
    · rename_i hx
      obtain ⟨d, fp, hd, ho⟩ := sliceV_sound hT (P := P) hx h
      exact ⟨_, [], _, _, hd, Nat.le_refl _, by simp, fun H2 V hH _ => same (ho V H2 hH)⟩
    · obtain ⟨d, hd, ho⟩ := sliceK_sound hT (P := P) h; exact pure_ hd ho
  · obtain ⟨d, blk, fp, hd, rfl, ho⟩ := makeK_sound hT (P := P) h; exact ⟨_, [(nx, blk)], _, _, hd, Nat.le_succ _, by simp, fun H2 V _ hf => next (ho H2 V (fr hf))⟩
  · obtain ⟨d, hd, ho⟩ := idxK_sound hT (P := P) h; exact pure_ hd ho
  · rename_i c
    unfold callK at h
    obtain ⟨callee, args, ts⟩ := c
    cases callee with
    | builtin b =>
      simp only [builtinK] at h
      split at h
      · split at h
        · rename_i x hx
          split at h
          · rename_i t ht
            have e1 : args = #[x] := by apply Array.toList_inj.1; simpa using hx
            have e2 : ts = #[t] := by apply Array.toList_inj.1; simpa using ht
            subst e1
            subst e2
            obtain ⟨d, hd, ho⟩ := lenT_sound hT (P := P) x h
            exact pure_ hd ho
          · simp [stuckP] at h
        · simp [stuckP] at h
      · split at h
        · rename_i s x hx
          split at h
          · rename_i t t2 ht
            have e1 : args = #[s, x] := by apply Array.toList_inj.1; simpa using hx
            have e2 : ts = #[t, t2] := by apply Array.toList_inj.1; simpa using ht
            subst e1
            subst e2
            exact appM_loc hT h
          · simp [stuckP] at h
        · simp [stuckP] at h
      · split at h
        · rename_i x y hx
          have e1 : args = #[x, y] := by apply Array.toList_inj.1; simpa using hx
          subst e1
          obtain ⟨d, hd, ho⟩ := minmaxK_sound (P := P) (mx := true) (ts := ts) h
          exact pure_ hd ho
        · simp [stuckP] at h
      · split at h
        · rename_i x y hx
          have e1 : args = #[x, y] := by apply Array.toList_inj.1; simpa using hx
          subst e1
          obtain ⟨d, hd, ho⟩ := minmaxK_sound (P := P) (mx := false) (ts := ts) h
          exact pure_ hd ho
        · simp [stuckP] at h
      · split at h
        · rename_i x hx
          split at h
          · rename_i t ht
            have e1 : args = #[x] := by apply Array.toList_inj.1; simpa using hx
            have e2 : ts = #[t] := by apply Array.toList_inj.1; simpa using ht
            subst e1
            subst e2
            split at h
            · rename_i hv
              obtain ⟨b, blk, hk, ho⟩ := clearV_sound hT (P := P) hv h
              exact ⟨_, [(b, blk)], _, _, hk, Nat.le_refl _, by simp, fun H2 V hH _ => same (ho V H2 (hH b (by simp)))⟩
            · simp [stuckP] at h
          · simp [stuckP] at h
        · simp [stuckP] at h
      · simp [stuckP] at h
    | value f =>
      simp only at h
      split at h
      · rename_i f' first cap hf
        simp only [callP] at h
        obtain ⟨d, W, nx', ids, hle, hc, hk⟩ := h
        exact ⟨_, W, _, _, hk, hle, fun x hx => List.mem_map_of_mem hx, fun H2 V hH2 hfr => call_sound hf (hc H2 V (fun b hb => hH2 b (by simp [hb])) hfr)⟩
      · simp [stuckP] at h
    | invoke a b => simp [stuckP] at h
  · split at h
    · obtain ⟨blk, hk, ho⟩ := makeMapK_sound (P := P) (A := A) h
      exact ⟨_, [(nx, _)], _, _, hk, Nat.le_succ _, by simp, fun H2 V _ hf => next (ho H2 V (fr hf))⟩
    · simp [stuckP] at h
  · obtain ⟨b, blk, hd, ho⟩ := updMapK_sound hT (P := P) (.inr rfl) h; exact ⟨_, [(b, blk)], _, _, hd, Nat.le_refl _, by simp, fun H2 V hH _ => same (ho V H2 (hH b (by simp)))⟩
  · obtain ⟨b, blk, hd, ho⟩ := updMapK_sound hT (P := P) (.inl rfl) h; exact ⟨_, [(b, blk)], _, _, hd, Nat.le_refl _, by simp, fun H2 V hH _ => same (ho V H2 (hH b (by simp)))⟩
  · obtain ⟨d, fp, hd, ho⟩ := lookMapK_sound hT (P := P) h
    exact ⟨_, [], _, _, hd, Nat.le_refl _, by simp, fun H2 V hH _ => same (ho V H2 hH)⟩
  · simp [stuckP] at h

theorem op1_sound {P : Program} {T : Ty} (hT : TyOk P T) {o : Op} {A : Tmps} {H : Heap} {nx : Nat} {K : D → Heap → Nat → Fp → Prop} (h : op1 P T o A H nx K) :
    ∃ d H' nx' fp, K d H' nx' fp ∧ OpOut P o A H (below nx) d H' (below nx') := by
  obtain ⟨d, W, nx', fp, hk, hle, _, ho⟩ := op1_loc hT h
  refine ⟨d, _, nx', fp, hk, ?_⟩
  have := ho H (below nx) (fun _ _ => rfl) fun b hb _ => by
    cases h : below nx b with
    | false => rfl
    | true => rw [below_iff] at h; omega
  rwa [iups_below hle] at this

-- runs of operations
def arun (P : Program) (T : Ty) : List Oper → Tmps → Heap → Nat → (Tmps → Heap → Nat → Prop) → Prop
  | [], A, H, nx, K => K A H nx
  | o :: os, A, H, nx, K => op1 P T o.op A H nx fun d H nx _ => match o.dst with
    | some t => arun P T os (upd A t d) H nx K
    | none => arun P T os A H nx K

def junks : List Oper → Tmps → Tmps
  | [], A => A
  | o :: os, A => match o.dst with
    | some t => junks os (upd A t (.tup []))
    | none => junks os A

abbrev Gd := Option (Nat × Bool)
def gdEq : Gd → Gd → Bool
  | none, none => true
  | some (a, b), some (c, d) => match Nat.beq a c with | true => b == d | false => false
  | _, _ => false

theorem gdEq_eq {a b : Gd} (h : gdEq a b = true) : a = b := by
  unfold gdEq at h
  split at h
  · rfl
  · rename_i a b c d
    split at h
    · rename_i hn
      have := Nat.eq_of_beq_eq_true hn
      simp at h
      simp [this, h]
    · cases h
  · cases h

def group : List Oper → List (Gd × List Oper)
  | [] => []
  | o :: os => match group os with
    | [] => [(o.guard, [o])]
    | (g, l) :: r => match gdEq o.guard g with
      | true => (g, o :: l) :: r
      | false => (o.guard, [o]) :: (g, l) :: r

def guardTmp (ops : List Oper) (j : Nat) : Option Nat := match ops[j]? with | some o => o.dst | none => none

/-- no operation of a group writes the guard's slot. -/
def noDst (t : Nat) : List Oper → Bool
  | [] => true
  | o :: os => match o.dst with
    | some s => match Nat.beq s t with | true => false | false => noDst t os
    | none => noDst t os

def agroups (P : Program) (T : Ty) (ops : List Oper) : List (Gd × List Oper) → Tmps → Heap → Nat → (Tmps → Heap → Nat → Prop) → Prop
  | [], A, H, nx, K => K A H nx
  | (none, os) :: gs, A, H, nx, K => arun P T os A H nx fun A H nx => agroups P T ops gs A H nx K
  | (some (j, want), os) :: gs, A, H, nx, K => match guardTmp ops j with
    | some t => match noDst t os with
      | true => match A t with
        | .p (.bool c) => match want with
          | true => condB c (arun P T os (upd A t (.p (.bool true))) H nx fun A H nx => agroups P T ops gs A H nx K)
              (agroups P T ops gs (junks os (upd A t (.p (.bool false)))) H nx K)
          | false => condB c (agroups P T ops gs (junks os (upd A t (.p (.bool true)))) H nx K)
              (arun P T os (upd A t (.p (.bool false))) H nx fun A H nx => agroups P T ops gs A H nx K)
        | .tup [] => agroups P T ops gs (junks os A) H nx K
        | _ => stuckP "guard"
      | false => stuckP "guard"
    | none => stuckP "guard"

-- regions that draw their order
/-- the slots that an operation looks at. -/
def looks (ops : List Oper) (o : Oper) : List Nat :=
  (o.op.operands.toList.filterMap fun | .tmp t => some t | _ => none) ++ (match o.guard with | some (j, _) => (guardTmp ops j).toList | none => [])

def disj (a b : List Nat) : Bool := a.all fun x => !b.contains x

/-- two entries of different keys are put into maps. -/
def exempt (o p : Oper) : Bool :=
  match o.op with
  | .insert _ _ (.const u) _ => match p.op with
    | .insert _ _ (.const v) _ => match ofVal u with
      | .p q => match ofVal v with
        | .p r => keyEq q q && keyEq r r && !keyEq q r && !keyEq r q
        | _ => false
      | _ => false
    | _ => false
  | _ => false

/-- may the two not be exchanged? -/
def clash (ops : List Oper) (o p : Oper) (f g : Fp) : Bool :=
  (match o.dst with | some d => (looks ops p).contains d || p.dst == some d | none => false) || (match p.dst with | some d => (looks ops o).contains d | none => false) ||
  (!exempt o p && (!disj f.w (g.r ++ g.w) || !disj g.w f.r))

/-- for each operation, which must come before it (a number's bits). -/
def masks : List Oper → List Nat → List Nat
  | [], acc => acc
  | o :: os, acc => masks os (acc ++ [o.after.toList.foldl (fun m e => match Region.binds .any e with | true => m ||| 1 <<< e.on ||| acc.getD e.on 0 | false => m) 0])

/-- every two that may not be exchanged have their order. -/
def drawOk (ops : List Oper) (fps : List Fp) : Bool :=
  let ms := masks ops []
  ((List.range ops.length).all fun k => match ops[k]? with
    | some o => o.after.toList.all fun e => !Region.binds .any e || Nat.blt e.on k
    | none => true) &&
  (List.range ops.length).all fun k => (List.range k).all fun i =>
    match ops[i]?, ops[k]?, fps[i]?, fps[k]? with
    | some o, some p, some f, some g => !clash ops o p f g || (ms.getD k 0).testBit i
    | _, _, _, _ => false

def arunD (P : Program) (T : Ty) (ops : List Oper) : List Oper → Tmps → Heap → Nat → List Fp → (List Fp → Tmps → Heap → Nat → Prop) → Prop
  | [], A, H, nx, fps, K => K fps A H nx
  | o :: os, A, H, nx, fps, K =>
    match o.guard with
    | none => op1 P T o.op A H nx fun d H nx fp => match o.dst with
        | some t => arunD P T ops os (upd A t d) H nx (fps ++ [fp]) K
        | none => arunD P T ops os A H nx (fps ++ [fp]) K
    | some (j, want) => match guardTmp ops j with
      | some t => match A t with
        | .p (.bool c) => match want with
          | true => condB c
            (op1 P T o.op (upd A t (.p (.bool true))) H nx fun d H nx fp => match o.dst with
                | some s => arunD P T ops os (upd (upd A t (.p (.bool true))) s d) H nx (fps ++ [fp]) K
                | none => arunD P T ops os (upd A t (.p (.bool true))) H nx (fps ++ [fp]) K)
            (match o.dst with
              | some s => arunD P T ops os (upd (upd A t (.p (.bool false))) s (.tup [])) H nx (fps ++ [fp0]) K
              | none => arunD P T ops os (upd A t (.p (.bool false))) H nx (fps ++ [fp0]) K)
          | false => condB c
            (match o.dst with
              | some s => arunD P T ops os (upd (upd A t (.p (.bool true))) s (.tup [])) H nx (fps ++ [fp0]) K
              | none => arunD P T ops os (upd A t (.p (.bool true))) H nx (fps ++ [fp0]) K)
            (op1 P T o.op (upd A t (.p (.bool false))) H nx fun d H nx fp => match o.dst with
                | some s => arunD P T ops os (upd (upd A t (.p (.bool false))) s d) H nx (fps ++ [fp]) K
                | none => arunD P T ops os (upd A t (.p (.bool false))) H nx (fps ++ [fp]) K)
        | .tup [] => match o.dst with
          | some s => arunD P T ops os (upd A s (.tup [])) H nx (fps ++ [fp0]) K
          | none => arunD P T ops os A H nx (fps ++ [fp0]) K
        | _ => stuckP "guard"
      | none => stuckP "guard"

abbrev Post := Exit → Tmps → Heap → Nat → Prop

def athen (Q : Post) (K : Tmps → Heap → Nat → Prop) : Post
  | .normal, A, H, nx => K A H nx
  | e, A, H, nx => Q e A H nx

def ablock (id : Nat) (Q : Post) : Post
  | .exit i, A, H, nx => match Nat.beq i id with | true => Q .normal A H nx | false => Q (.exit i) A H nx
  | e, A, H, nx => Q e A H nx

/-- the same state, or one that says less. -/
def StLe (n0 : Nat) (A : Tmps) (H : Heap) (nx : Nat) (A' : Tmps) (H' : Heap) (nx' : Nat) : Prop :=
  ∀ (N : Nat) (d0 F : Nat → Prop) (c : Cx) (a : Act) (w : World), Rel N n0 d0 A H (below nx) c F a w → ∃ c', Rel N n0 d0 A' H' (below nx') c' F a w ∧ Later n0 d0 F c w c' w

/-- a loop: least relation closed under its rounds. -/
@[irreducible] def loopP (n0 : Nat) (F : Tmps → Heap → Nat → Post → Prop) (A : Tmps) (H : Heap) (nx : Nat) (Q : Post) : Prop :=
  ∃ A1 H1 nx1, StLe n0 A H nx A1 H1 nx1 ∧
  ∀ R : Tmps → Heap → Nat → Prop, (∀ A H nx, F A H nx (athen Q fun A' H' nx' => ∃ A2 H2 nx2, StLe n0 A' H' nx' A2 H2 nx2 ∧ R A2 H2 nx2) → R A H nx) → R A1 H1 nx1

def aexec (P : Program) (T : Ty) (n0 : Nat) : Code → Tmps → Heap → Nat → Post → Prop
  | .skip, A, H, nx, Q => Q .normal A H nx
  | .region _ ops draw, A, H, nx, Q => match draw with
    | false => agroups P T ops.toList (group ops.toList) A H nx fun A H nx => Q .normal A H nx
    | true => arunD P T ops.toList ops.toList A H nx [] fun fps A H nx => needP (drawOk ops.toList fps = true) (Q .normal A H nx)
  | .seq a b, A, H, nx, Q => aexec P T n0 a A H nx (athen Q fun A H nx => aexec P T n0 b A H nx Q)
  | .cond c x y, A, H, nx, Q => match ev A c with
    | .p (.bool c) => condB c (aexec P T n0 x A H nx Q) (aexec P T n0 y A H nx Q)
    | _ => stuckP "cond"
  | .block id c, A, H, nx, Q => aexec P T n0 c A H nx (ablock id Q)
  | .loop c, A, H, nx, Q => loopP n0 (fun A H nx Q => aexec P T n0 c A H nx Q) A H nx Q
  | .exit id, A, H, nx, Q => Q (.exit id) A H nx
  | .ret, A, H, nx, Q => Q .ret A H nx
  | _, _, _, _, _ => stuckP "code"

/-- all slots that code writes are there. -/
def opsOk (N : Nat) : List Oper → Bool
  | [] => true
  | o :: os => match o.dst with
    | some t => match Nat.blt t N with | true => opsOk N os | false => false
    | none => opsOk N os
def codeOk (N : Nat) : Code → Bool
  | .region _ ops _ => opsOk N ops.toList
  | .seq a b => match codeOk N a with | true => codeOk N b | false => false
  | .cond _ a b => match codeOk N a with | true => codeOk N b | false => false
  | .block _ c => codeOk N c
  | .loop c => codeOk N c
  | .scope c => codeOk N c
  | .rangeFunc _ _ a b => match codeOk N a with | true => codeOk N b | false => false
  | _ => true

end Qa

namespace Qa
open Go

theorem upd_same (A : Tmps) (t : Nat) (d : D) : upd A t d t = d := by simp [upd]
theorem upd_ne (A : Tmps) {t x : Nat} (d : D) (h : x ≠ t) : upd A t d x = A x := by
  have : Nat.beq x t = false := by cases hb : Nat.beq x t <;> simp_all
  simp [upd, this]

def put' (A : Tmps) (t : Option Nat) (d : D) : Tmps := match t with | some t => upd A t d | none => A

theorem Rel.put {N n0 d0 A H H' nx nx' c c' F a w w' d v} (h : Rel N n0 d0 A H nx c F a w) (hd : d.under nx' = true) (hr : Rd c' w' d v) (hw : WRel n0 d0 H' nx' c' F w')
    (s : Step nx c w c' w') (hn : nx.le nx') (t : Option Nat) (ht : ∀ x, t = some x → x < N) : Rel N n0 d0 (put' A t d) H' nx' c' F (a.put t v) w' := by
  cases t with
  | none => exact ⟨h.dn, h.sz, fun t => Rd.mono s _ _ (h.bt t) (h.tm t), fun t => under_le hn _ (h.bt t), hw⟩
  | some x =>
    refine ⟨h.dn, by simpa [Act.put] using h.sz, fun t => ?_, fun t => ?_, hw⟩
    · by_cases e : t = x
      · subst e
        simp only [put', upd_same, Act.put, Array.getD_eq_getD_getElem?]
        have := ht t rfl
        rw [Array.getElem?_setIfInBounds_self_of_lt (by rw [h.sz]; exact this)]
        exact hr
      · simp only [put', upd_ne A d e, Act.put, Array.getD_eq_getD_getElem?]
        rw [Array.getElem?_setIfInBounds_ne (Ne.symm e), ← Array.getD_eq_getD_getElem?]
        exact Rd.mono s _ _ (h.bt t) (h.tm t)
    · by_cases e : t = x
      · subst e; simpa [put', upd_same] using hd
      · simpa [put', upd_ne A d e] using under_le hn _ (h.bt t)

theorem Rel.putSame {N n0 d0 A H nx c F a w d v} (h : Rel N n0 d0 A H nx c F a w) (hd : d.under nx = true) (hr : Rd c w d v) (t : Option Nat) (ht : ∀ x, t = some x → x < N) :
    Rel N n0 d0 (put' A t d) H nx c F (a.put t v) w := h.put hd hr h.wr (Step.refl _ _ _) (Ids.le.refl _) t ht

/-- a slot said anew (the same value). -/
theorem Rel.say {N n0 d0 A H nx c F a w d} (h : Rel N n0 d0 A H nx c F a w) (t : Nat) (hd : d.under nx = true) (hr : Rd c w d (a.tmps.getD t undef)) : Rel N n0 d0 (upd A t d) H nx c F a w := by
  refine ⟨h.dn, h.sz, fun x => ?_, fun x => ?_, h.wr⟩
  · by_cases e : x = t
    · subst e; rw [upd_same]; exact hr
    · rw [upd_ne A d e]; exact h.tm x
  · by_cases e : x = t
    · subst e; rw [upd_same]; exact hd
    · rw [upd_ne A d e]; exact h.bt x

theorem getD_bool {a : Act} {t : Nat} {b : Bool} (h : a.tmps.getD t undef = .bool b) : a.tmps[t]? = some (.bool b) := by
  rw [Array.getD_eq_getD_getElem?] at h
  cases hx : a.tmps[t]? with
  | none => simp [hx, undef] at h
  | some v => simp [hx] at h; rw [h]

theorem yielded_of {ops : Array Oper} {a : Act} {j t : Nat} {b : Bool} (hg : guardTmp ops.toList j = some t) (h : a.tmps.getD t undef = .bool b) : yielded ops a.tmps j = some b := by
  have hd : (ops[j]?).bind (·.dst) = some t := by
    unfold guardTmp at hg
    rw [Array.getElem?_toList] at hg
    cases ho : ops[j]? with
    | none => simp [ho] at hg
    | some o => simpa [ho] using hg
  unfold yielded
  simp only [hd, Option.bind_some, getD_bool h]

theorem yielded_undef {ops : Array Oper} {a : Act} {j t : Nat} (hg : guardTmp ops.toList j = some t) (h : a.tmps.getD t undef = .tuple #[]) : yielded ops a.tmps j = none := by
  have hd : (ops[j]?).bind (·.dst) = some t := by
    unfold guardTmp at hg
    rw [Array.getElem?_toList] at hg
    cases ho : ops[j]? with
    | none => simp [ho] at hg
    | some o => simpa [ho] using hg
  unfold yielded
  simp only [hd, Option.bind_some]
  rw [Array.getD_eq_getD_getElem?] at h
  cases hx : a.tmps[t]? with
  | none => rfl
  | some v => simp [hx] at h; subst h; rfl

/-- the operation will be carried out. -/
def Wanted (ops : Array Oper) (A : Tmps) (os : List Oper) : Prop :=
  ∃ g : Gd, (∀ o ∈ os, o.guard = g) ∧ match g with
    | none => True
    | some (j, want) => ∃ t, guardTmp ops.toList j = some t ∧ A t = .p (.bool want) ∧ noDst t os = true

theorem noDst_cons {t : Nat} {o : Oper} {os : List Oper} (h : noDst t (o :: os) = true) : o.dst ≠ some t ∧ noDst t os = true := by
  simp only [noDst] at h
  split at h
  · rename_i s hs
    split at h
    · cases h
    · rename_i hb
      refine ⟨fun e => ?_, h⟩
      rw [hs] at e; cases e; simp at hb
  · rename_i hs; exact ⟨by simp [hs], h⟩

theorem opsOk_cons {N : Nat} {o : Oper} {os : List Oper} (h : opsOk N (o :: os) = true) : (∀ t, o.dst = some t → t < N) ∧ opsOk N os = true := by
  simp only [opsOk] at h
  split at h
  · rename_i s hs
    split at h
    · rename_i hb
      refine ⟨fun t e => ?_, h⟩
      rw [hs] at e; cases e; simpa using hb
    · cases h
  · rename_i hs; exact ⟨by simp [hs], h⟩

theorem arun_sound {P : Program} {T : Ty} (hT : TyOk P T) {N n0 : Nat} {d0 F : Nat → Prop} {ops : Array Oper} {rest : List Oper} {Q : Exit → Act → World → Prop} :
    ∀ (os : List Oper) (A : Tmps) (H : Heap) (nx : Nat) (K : Tmps → Heap → Nat → Prop), arun P T os A H nx K → opsOk N os = true → Wanted ops A os → ∀ (c : Cx) (a : Act) (w : World),
      Rel N n0 d0 A H (below nx) c F a w → (∀ A' H' nx' c' a' w', K A' H' nx' → Rel N n0 d0 A' H' (below nx') c' F a' w' → Later n0 d0 F c w c' w' → wpList P ops Q rest a' w') →
      wpList P ops Q (os ++ rest) a w
  | [], A, H, nx, K, h, _, _, c, a, w, hr, hK => hK A H nx c a w h hr (Later.refl _ _ _ _ _)
  | o :: os, A, H, nx, K, h, hok, hw, c, a, w, hr, hK => by
    obtain ⟨ht, hok'⟩ := opsOk_cons hok
    simp only [arun] at h
    obtain ⟨d, H', nx', fp, hk, ho⟩ := op1_sound hT h
    have hk : arun P T os (put' A o.dst d) H' nx' K := by
      cases hd : o.dst <;> simp only [hd] at hk <;> exact hk
    obtain ⟨hle, ho⟩ := ho
    have hwant : Region.wanted o (yielded ops a.tmps) = true := by
      obtain ⟨g, hg, hm⟩ := hw
      have hgo := hg o (by simp)
      cases g with
      | none => simp [Region.wanted, hgo]
      | some x =>
        obtain ⟨j, want⟩ := x
        obtain ⟨t, h1, h2, _⟩ := hm
        have hb := hr.tm t
        rw [h2] at hb
        simp [Region.wanted, hgo, yielded_of h1 (Rp.bool_inv hb)]
    have hw' : Wanted ops (put' A o.dst d) os := by
      obtain ⟨g, hg, hm⟩ := hw
      refine ⟨g, fun x hx => hg x (by simp [hx]), ?_⟩
      cases g with
      | none => trivial
      | some x =>
        obtain ⟨j, want⟩ := x
        obtain ⟨t, h1, h2, h3⟩ := hm
        obtain ⟨h4, h5⟩ := noDst_cons h3
        refine ⟨t, h1, ?_, h5⟩
        cases hd : o.dst with
        | none => exact h2
        | some s => simp only [put']; rw [upd_ne A d (fun e => h4 (by rw [hd, e]))]; exact h2
    simp only [List.cons_append, wpList, hwant, if_true]
    left
    refine ho o n0 d0 F c a w rfl (fun x _ => hr.ev x) hr.wr _ _ fun v w' ⟨hd, c', h1, h2, h3, h4⟩ => ?_
    exact arun_sound hT os _ H' nx' K hk hok' hw' c' (a.put o.dst v) w' (hr.put hd h1 h2 h3 hle o.dst ht)
      fun A2 H2 nx2 c2 a2 w2 k1 k2 k3 => hK A2 H2 nx2 c2 a2 w2 k1 k2 (h4.trans k3)

theorem junks_sound {P : Program} {N n0 : Nat} {d0 F : Nat → Prop} {ops : Array Oper} {rest : List Oper} {Q : Exit → Act → World → Prop} {j t : Nat} {want : Bool} (hgt : guardTmp ops.toList j = some t) :
    ∀ (os : List Oper) (A : Tmps) (H : Heap) (nx : Nat), opsOk N os = true → (∀ o ∈ os, o.guard = some (j, want)) → noDst t os = true → ∀ (c : Cx) (a : Act) (w : World),
      Rel N n0 d0 A H (below nx) c F a w → (a.tmps.getD t undef = .bool (!want) ∨ a.tmps.getD t undef = .tuple #[]) →
      (∀ a', Rel N n0 d0 (junks os A) H (below nx) c F a' w → wpList P ops Q rest a' w) → wpList P ops Q (os ++ rest) a w
  | [], A, H, nx, _, _, _, c, a, w, hr, _, hK => hK a hr
  | o :: os, A, H, nx, hok, hg, hn, c, a, w, hr, hv, hK => by
    obtain ⟨ht, hok'⟩ := opsOk_cons hok
    obtain ⟨h4, h5⟩ := noDst_cons hn
    have hnw : Region.wanted o (yielded ops a.tmps) = false := by
      rcases hv with hv | hv
      · simp [Region.wanted, hg o (by simp), yielded_of hgt hv]
      · simp [Region.wanted, hg o (by simp), yielded_undef hgt hv]
    simp only [List.cons_append, wpList, hnw, Bool.false_eq_true, if_false]
    refine junks_sound hgt os (put' A o.dst (.tup [])) H nx hok' (fun x hx => hg x (by simp [hx])) h5 c (a.put o.dst undef) w
      (hr.putSame (d := .tup []) (v := undef) (by simp [D.under, underL]) ⟨[], rfl, trivial⟩ o.dst ht) ?_ fun a' h => hK a' ?_
    · have e : (a.put o.dst undef).tmps.getD t undef = a.tmps.getD t undef := by
        cases hd : o.dst with
        | none => rfl
        | some s =>
          simp only [Act.put, Array.getD_eq_getD_getElem?]
          rw [Array.getElem?_setIfInBounds_ne (fun e => h4 (by rw [hd, e]))]
      rw [e]; exact hv
    · have e : junks (o :: os) A = junks os (put' A o.dst (.tup [])) := by
        simp only [junks]
        cases o.dst <;> rfl
      rw [e]; exact h

theorem opsOk_append {N : Nat} : ∀ {a b : List Oper}, opsOk N (a ++ b) = true → opsOk N a = true ∧ opsOk N b = true
  | [], _, h => ⟨rfl, h⟩
  | o :: a, b, h => by
    rw [List.cons_append] at h
    obtain ⟨h1, h2⟩ := opsOk_cons h
    obtain ⟨h3, h4⟩ := opsOk_append h2
    refine ⟨?_, h4⟩
    simp only [opsOk]
    cases hd : o.dst with
    | none => exact h3
    | some t =>
      have := h1 t hd
      have e : Nat.blt t N = true := by simpa using this
      simp only [e]; exact h3

theorem group_flat : ∀ (os : List Oper), ((group os).map (·.2)).flatten = os ∧ ∀ x ∈ group os, ∀ o ∈ x.2, o.guard = x.1
  | [] => by simp [group]
  | o :: os => by
    obtain ⟨h1, h2⟩ := group_flat os
    simp only [group]
    cases hg : group os with
    | nil =>
      rw [hg] at h1
      simp at h1
      subst h1
      simp
    | cons x r =>
      obtain ⟨g, l⟩ := x
      rw [hg] at h1 h2
      simp only
      split
      · rename_i he
        have he := gdEq_eq he
        refine ⟨by simpa using h1, fun x hx y hy => ?_⟩
        rcases List.mem_cons.1 hx with rfl | hx
        · simp only at hy ⊢
          rcases List.mem_cons.1 hy with rfl | hy
          · exact he
          · exact h2 (g, l) (by simp) y hy
        · exact h2 x (by simp [hx]) y hy
      · refine ⟨by simpa using h1, fun x hx y hy => ?_⟩
        rcases List.mem_cons.1 hx with rfl | hx
        · simp at hy; subst hy; rfl
        · exact h2 x hx y hy

theorem condB_cases {c : Bool} {X Y : Prop} (h : condB c X Y) : (c = true ∧ X) ∨ (c = false ∧ Y) := by
  cases c
  · exact .inr ⟨rfl, h⟩
  · exact .inl ⟨rfl, h⟩

theorem agroups_sound {P : Program} {T : Ty} (hT : TyOk P T) {N n0 : Nat} {d0 F : Nat → Prop} {ops : Array Oper} {Q : Exit → Act → World → Prop} :
    ∀ (gs : List (Gd × List Oper)) (A : Tmps) (H : Heap) (nx : Nat) (K : Tmps → Heap → Nat → Prop), agroups P T ops.toList gs A H nx K → opsOk N ((gs.map (·.2)).flatten) = true →
      (∀ x ∈ gs, ∀ o ∈ x.2, o.guard = x.1) → ∀ (c : Cx) (a : Act) (w : World), Rel N n0 d0 A H (below nx) c F a w →
      (∀ A' H' nx' c' a' w', K A' H' nx' → Rel N n0 d0 A' H' (below nx') c' F a' w' → Later n0 d0 F c w c' w' → Q .normal a' w') →
      wpList P ops Q ((gs.map (·.2)).flatten) a w
  | [], A, H, nx, K, h, _, _, c, a, w, hr, hK => hK A H nx c a w h hr (Later.refl _ _ _ _ _)
  | (none, os) :: gs, A, H, nx, K, h, hok, hg, c, a, w, hr, hK => by
    simp only [agroups] at h
    simp only [List.map_cons, List.flatten_cons] at hok ⊢
    obtain ⟨ok1, ok2⟩ := opsOk_append hok
    refine arun_sound hT os A H nx _ h ok1 ⟨none, fun o ho => hg (none, os) (by simp) o ho, trivial⟩ c a w hr fun A' H' nx' c' a' w' k1 k2 k3 => ?_
    exact agroups_sound hT gs A' H' nx' K k1 ok2 (fun x hx => hg x (by simp [hx])) c' a' w' k2 fun A2 H2 nx2 c2 a2 w2 l1 l2 l3 => hK A2 H2 nx2 c2 a2 w2 l1 l2 (k3.trans l3)
  | (some (j, want), os) :: gs, A, H, nx, K, h, hok, hg, c, a, w, hr, hK => by
    simp only [List.map_cons, List.flatten_cons] at hok ⊢
    obtain ⟨ok1, ok2⟩ := opsOk_append hok
    simp only [agroups] at h
    split at h
    case h_2 => simp [stuckP] at h
    rename_i t hgt
    split at h
    case h_2 => simp [stuckP] at h
    rename_i hnd
    have yes : ∀ (b : Bool), A t = .p (.bool b) → b = want → arun P T os (upd A t (.p (.bool want))) H nx (fun A H nx => agroups P T ops.toList gs A H nx K) → wpList P ops Q (os ++ (gs.map (·.2)).flatten) a w := by
      intro b hA hb hh
      subst hb
      have hrt := hr.tm t
      rw [hA] at hrt
      refine arun_sound hT os _ H nx _ hh ok1 ⟨some (j, b), fun o ho => hg (some (j, b), os) (by simp) o ho, t, hgt, upd_same _ _ _, hnd⟩ c a w (hr.say t rfl hrt) fun A' H' nx' c' a' w' k1 k2 k3 => ?_
      exact agroups_sound hT gs A' H' nx' K k1 ok2 (fun x hx => hg x (by simp [hx])) c' a' w' k2 fun A2 H2 nx2 c2 a2 w2 l1 l2 l3 => hK A2 H2 nx2 c2 a2 w2 l1 l2 (k3.trans l3)
    have no : ∀ (A' : Tmps), Rel N n0 d0 A' H (below nx) c F a w → (a.tmps.getD t undef = .bool (!want) ∨ a.tmps.getD t undef = .tuple #[]) → agroups P T ops.toList gs (junks os A') H nx K →
        wpList P ops Q (os ++ (gs.map (·.2)).flatten) a w := by
      intro A' hr' hv hh
      refine junks_sound hgt os A' H nx ok1 (fun o ho => hg (some (j, want), os) (by simp) o ho) hnd c a w hr' hv fun a' k => ?_
      exact agroups_sound hT gs _ H nx K hh ok2 (fun x hx => hg x (by simp [hx])) c a' w k hK
    split at h
    · rename_i b hA
      have hrt := hr.tm t
      rw [hA] at hrt
      have hv := Rp.bool_inv hrt
      split at h
      · rcases condB_cases h with ⟨rfl, h⟩ | ⟨rfl, h⟩
        · exact yes true hA rfl h
        · exact no _ (hr.say t rfl hrt) (.inl hv) h
      · rcases condB_cases h with ⟨rfl, h⟩ | ⟨rfl, h⟩
        · exact no _ (hr.say t rfl hrt) (.inl hv) h
        · exact yes false hA rfl h
    · rename_i hA
      have hrt := hr.tm t
      rw [hA] at hrt
      obtain ⟨vs, hv, hl⟩ := hrt
      have : vs = [] := by cases vs <;> simp_all [RdL]
      subst this
      exact no A hr (.inr hv) h
    · simp [stuckP] at h

end Qa
