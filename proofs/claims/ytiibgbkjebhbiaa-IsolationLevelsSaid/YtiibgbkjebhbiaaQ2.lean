/-
  The abstract machine: further operations, made slices, maps.
  Part of a proof about the program's own text; written by an AI agent. No statement is proved here: the lemmas that the last text needs.
-/
import Derived.Test.YtiibgbkjebhbiaaQ1
import Derived.Great.BuildSlice
import Derived.Laws.StructEq
import Derived.MapKept
namespace Qa
open Go

def evL (A : Tmps) : List Operand → List D
  | [] => []
  | x :: xs => ev A x :: evL A xs

theorem RdL_evL {c : Cx} {w : World} {nx : Ids} {A : Tmps} {a : Act} : ∀ (l : List Operand), (∀ x ∈ l, Rd c w (ev A x) (a.eval x) ∧ (ev A x).under nx = true) →
    RdL c w (evL A l) (l.map a.eval) ∧ underL nx (evL A l) = true
  | [], _ => ⟨trivial, by simp [evL, underL]⟩
  | x :: l, h => by
    obtain ⟨h1, h2⟩ := RdL_evL l fun y hy => h y (by simp [hy])
    obtain ⟨a1, a2⟩ := h x (by simp)
    exact ⟨⟨a1, h1⟩, by simp [evL, underL, a2, h2]⟩

-- makeFunc
def mkFnK (fn : Fn) (first cap : List Operand) (A : Tmps) (K : D → Prop) : Prop :=
  match fn with
  | .func f => K (.fn f (evL A first) (evL A cap))
  | _ => stuckP "makeFunc"

theorem mkFnK_sound {P : Program} {fn : Fn} {first cap : Array Operand} {A : Tmps} {K : D → Prop} (h : mkFnK fn first.toList cap.toList A K) :
    ∃ d, K d ∧ ∀ (nx : Ids) (H : Heap), OpOut P (.makeFunc fn first cap) A H nx d H nx := by
  unfold mkFnK at h
  split at h
  case h_2 => simp [stuckP] at h
  rename_i f
  refine ⟨_, h, fun nx H => .value fun oo n0 d0 F c a w ho he hw => ?_⟩
  obtain ⟨h1, h2⟩ := RdL_evL (c := c) (w := w) (nx := nx) (A := A) (a := a) first.toList fun x hx => he x (by simp [Op.operands]; exact .inl (by simpa using hx))
  obtain ⟨h3, h4⟩ := RdL_evL (c := c) (w := w) (nx := nx) (A := A) (a := a) cap.toList fun x hx => he x (by simp [Op.operands]; exact .inr (by simpa using hx))
  refine ⟨by simp [D.under, h2, h4], .func (.func f) (first.map a.eval) (cap.map a.eval), ?_, _, _, ?_, h1, h3⟩
  · unfold execOp
    simp only [ho, Instr.makeFunc, Sem.run_bind, Sem.run_pure, Result.andThen_ok]
  · simp [List.map_toArray.symm]

-- a value as pure data
mutual
def D.pure? : D → Option Pd
  | .p x => some x
  | .nilsl => some (.list [])
  | .full xs => some (.list xs)
  | .acc _ xs => some (.list xs)
  | .agg ds => match pureL? ds with | some xs => some (.agg xs) | none => none
  | _ => none
def pureL? : List D → Option (List Pd)
  | [] => some []
  | d :: ds => match D.pure? d with
    | some x => match pureL? ds with | some xs => some (x :: xs) | none => none
    | none => none
end

mutual
theorem pure?_rp {c : Cx} {w : World} : ∀ (d : D) (x : Pd) (v : Value), d.pure? = some x → (d.one = true ∨ allOne d.cells = true) → Rd c w d v → Rp c.K w x v
  | .p _, _, _, h, _, hr => by simp [D.pure?] at h; subst h; exact hr
  | .nilsl, _, _, h, _, hr => by simp [D.pure?] at h; subst h; have : _ = Value.slice none 0 0 := hr; subst this; exact .nil
  | .full _, _, _, h, _, hr => by simp [D.pure?] at h; subst h; exact hr.1
  | .acc _ _, _, _, h, _, hr => by simp [D.pure?] at h; subst h; exact hr.1
  | .agg ds, x, v, h, h1, hr => by
    simp only [D.pure?] at h
    split at h
    · rename_i xs hx
      cases h
      obtain ⟨vs, rfl, hrl⟩ := hr
      have h1 : allOne ds = true := by
        rcases h1 with h1 | h1
        · simp [D.one] at h1
        · simpa [D.cells] using h1
      obtain ⟨a1, a2⟩ := pureL?_rp ds xs vs hx h1 hrl
      exact .agg xs vs a1 (RdL_one hrl h1) a2
    · cases h
  | .ref _ _, _, _, h, _, _ | .xref _ _, _, _, h, _, _ | .cptr _, _, _, h, _, _ | .ms _ _ _ _ _, _, _, h, _, _ | .tup _, _, _, h, _, _ | .fn _ _ _, _, _, h, _, _
  | .nilptr, _, _, h, _, _ | .nilfn, _, _, h, _, _ | .nilmap, _, _, h, _, _ | .map _, _, _, h, _, _ | .vec _ _ _ _ _, _, _, h, _, _ | .vref _ _ _ _, _, _, h, _, _ | .junk, _, _, h, _, _ => by simp [D.pure?] at h
theorem pureL?_rp {c : Cx} {w : World} : ∀ (ds : List D) (xs : List Pd) (vs : List Value), pureL? ds = some xs → allOne ds = true → RdL c w ds vs →
    xs.length = vs.length ∧ ∀ (j : Nat) (x : Pd) (v : Value), xs[j]? = some x → vs[j]? = some v → Rp c.K w x v
  | [], xs, [], h, _, _ => by simp [pureL?] at h; subst h; simp
  | d :: ds, xs, v :: vs, h, h1, hr => by
    simp only [pureL?] at h
    split at h
    case h_2 => cases h
    rename_i x hx
    split at h
    case h_2 => cases h
    rename_i xs' hx'
    cases h
    simp only [allOne] at h1
    split at h1
    case h_2 => cases h1
    rename_i ho
    have h2 := pure?_rp d x v hx (.inl ho) hr.1
    obtain ⟨a1, a2⟩ := pureL?_rp ds xs' vs hx' h1 hr.2
    refine ⟨by simp [a1], fun j y u hy hu => ?_⟩
    cases j with
    | zero => simp at hy hu; subst hy; subst hu; exact h2
    | succ j => simp at hy hu; exact a2 j y u hy hu
  | [], _, _ :: _, _, _, hr => hr.elim
  | _ :: _, _, [], _, _, hr => hr.elim
end

def pureAll : List D → Option (List Pd)
  | [] => some []
  | d :: ds => match allOne d.cells with
    | true => match d.pure? with
      | some x => match pureAll ds with | some xs => some (x :: xs) | none => none
      | none => none
    | false => none

theorem pureAll_rp {c : Cx} {w : World} : ∀ {ds : List D} {xs : List Pd} {vs : List Value}, pureAll ds = some xs → RdL c w ds vs → xs.length = vs.length ∧
    ∀ (j : Nat) (x : Pd) (v : Value), xs[j]? = some x → vs[j]? = some v → Rp c.K w x v
  | [], xs, [], h, _ => by simp [pureAll] at h; subst h; simp
  | d :: ds, xs, v :: vs, h, hr => by
    simp only [pureAll] at h
    split at h
    case h_2 => cases h
    rename_i ho
    split at h
    case h_2 => cases h
    rename_i x hx
    split at h
    case h_2 => cases h
    rename_i xs' hx'
    cases h
    have h2 := pure?_rp d x v hx (.inr ho) hr.1
    obtain ⟨a1, a2⟩ := pureAll_rp hx' hr.2
    refine ⟨by simp [a1], fun j y u hy hu => ?_⟩
    cases j with
    | zero => simp at hy hu; subst hy; subst hu; exact h2
    | succ j => simp at hy hu; exact a2 j y u hy hu
  | [], _, _ :: _, _, hr => hr.elim
  | _ :: _, _, [], _, hr => hr.elim

theorem Rp.cells_len {K : Nat → Nat → Prop} {w : World} {x : Pd} {v : Value} (h : Rp K w x v) : v.cells.size = x.cells.length := by
  cases h with
  | agg cs vs hl _ _ => simp [Value.cells, Pd.cells, hl]
  | _ => simp [Value.cells, Pd.cells]

theorem Rp.cell_get {K : Nat → Nat → Prop} {w : World} {x : Pd} {v : Value} (h : Rp K w x v) {j : Nat} {q : Pd} (hq : x.cells[j]? = some q) : ∃ u, v.cells[j]? = some u ∧ u.oneCell' = true ∧ Rp K w q u := by
  cases h with
  | agg cs vs hl h1 h =>
    simp only [Pd.cells] at hq
    have hlt : j < vs.length := by rw [← hl]; exact (List.getElem?_eq_some_iff.1 hq).1
    refine ⟨vs[j], by simp [Value.cells, hlt], h1 _ (List.getElem_mem hlt), h j q _ hq (List.getElem?_eq_getElem hlt)⟩
  | int k n => cases j <;> simp [Pd.cells] at hq; subst hq; exact ⟨_, rfl, rfl, .int k n⟩
  | bool b => cases j <;> simp [Pd.cells] at hq; subst hq; exact ⟨_, rfl, rfl, .bool b⟩
  | str s => cases j <;> simp [Pd.cells] at hq; subst hq; exact ⟨_, rfl, rfl, .str s⟩
  | nil => cases j <;> simp [Pd.cells] at hq; subst hq; exact ⟨_, rfl, rfl, .nil⟩
  | nila a => cases j <;> simp [Pd.cells] at hq; subst hq; exact ⟨_, rfl, rfl, .nila a⟩
  | list g o cap sz xs u hcap hs hc hr => cases j <;> simp [Pd.cells] at hq; subst hq; exact ⟨_, rfl, rfl, .list g o cap sz xs u hcap hs hc hr⟩

-- buildSlice
def ordP : Nat → List (Nat × Operand) → Option (List Operand)
  | _, [] => some []
  | k, (i, x) :: r => match Nat.beq i k with
    | true => match ordP (k + 1) r with | some l => some (x :: l) | none => none
    | false => none

theorem ordP_spec (a : Act) : ∀ {r : List (Nat × Operand)} {k : Nat} {l : List Operand}, ordP k r = some l → r.map (·.2) = l ∧ (r.map fun x => (x.1, a.eval x.2)) = ((l.map a.eval).zipIdx k).map fun x => (x.2, x.1)
  | [], k, l, h => by simp [ordP] at h; subst h; simp
  | (i, x) :: r, k, l, h => by
    simp only [ordP] at h
    split at h
    case h_2 => cases h
    rename_i hk
    have hk := Nat.eq_of_beq_eq_true hk
    subst hk
    split at h
    case h_2 => cases h
    rename_i l' hl
    cases h
    obtain ⟨a1, a2⟩ := ordP_spec a hl
    exact ⟨by simp [a1], by simp [a2, List.zipIdx_cons]⟩

def bsK (T : Ty) (t : TypeId) (len : Nat) (parts : List (Nat × Operand)) (A : Tmps) (K : D → Prop) : Prop :=
  match (T t).d with
  | .slice _ sz _ => match Nat.blt 0 sz with
    | true => match Nat.beq parts.length len with
      | true => match Nat.ble (len * sz) 16777216 with
        | true => match ordP 0 parts with
          | some l => match pureAll (evL A l) with
            | some xs => needP (∀ x ∈ xs, x.cells.length = sz) (K (.full xs))
            | none => stuckP "buildSlice: not pure"
          | none => stuckP "buildSlice: order"
        | false => stuckP "buildSlice: too long"
      | false => stuckP "buildSlice: parts"
    | false => stuckP "buildSlice: size"
  | _ => stuckP "buildSlice: type"

/-- new cells that are never changed. -/
theorem WRel.keep {n0 d0 H nx c F w} (h : WRel n0 d0 H nx c F w) (cur : Array Value) (e : TypeId) :
    WRel n0 d0 H nx { c with K := fun g o => c.K g o ∨ g = w.heap.size } F (w.alloc (.cells cur e)) ∧
    Step nx c w { c with K := fun g o => c.K g o ∨ g = w.heap.size } (w.alloc (.cells cur e)) ∧
    Later n0 d0 F c w { c with K := fun g o => c.K g o ∨ g = w.heap.size } (w.alloc (.cells cur e)) := by
  have hs : Step nx c w { c with K := fun g o => c.K g o ∨ g = w.heap.size } (w.alloc (.cells cur e)) := ⟨fun g o hk => ⟨.inl hk, fun u hu => by
    rw [World.cell?_alloc_lt (h := cell_lt hu)]; exact hu⟩, fun _ _ => rfl, fun _ _ => tgrow.refl _⟩
  have hp : ∀ b k, place ({ c with K := fun g o => c.K g o ∨ g = w.heap.size } : Cx) b k = place c b k := fun b k => place_mono rfl rfl
  refine ⟨⟨fun b k hb => ?_, fun b b' k k' g hb hb' h1 h2 => ?_, h.bh, h.dm, h.n0, fun g o hk => ?_, fun g hg => ?_⟩, hs, hs.le h.le0, fun g hg => heap_alloc_old w _ (h.fb g hg), fun g o hk => ?_, by simp, fun _ _ _ => rfl, ⟨rfl, rfl, rfl, by first | exact Nat.le_refl _ | exact Nat.le_succ _⟩⟩
  · obtain ⟨hlt, hun⟩ := h.bh b k hb
    refine (h.blk b k hb).mono hs hlt hun (fun g hp => heap_alloc_old w _ ((h.blk b k hb).place_lt hp).1) (fun g o hp hk => ?_) rfl
    rcases hk with hk | rfl
    · exact hk
    · exact absurd ((h.blk b k hb).place_lt hp).1 (Nat.lt_irrefl _)
  · rw [hp] at h1 h2
    exact h.inj b b' k k' g hb hb' h1 h2
  · rcases hk with hk | rfl
    · have := h.kb g o hk; simp; omega
    · simp
  · have := h.fb g hg; simp; omega
  · rcases hk with hk | rfl
    · exact .inl hk
    · exact .inr fun hf => Nat.lt_irrefl _ (h.fb _ hf)

theorem bsK_sound {P : Program} {T : Ty} (hT : TyOk P T) {t : TypeId} {len : Nat} {parts : Array (Nat × Operand)} {A : Tmps} {K : D → Prop} (h : bsK T t len parts.toList A K) :
    ∃ d, K d ∧ ∀ (nx : Ids) (H : Heap), OpOut P (.buildSlice t len parts) A H nx d H nx := by
  unfold bsK at h
  split at h
  case h_2 => simp [stuckP] at h
  rename_i e sz by_ ht
  split at h
  case h_2 => simp [stuckP] at h
  rename_i h0
  have h0 : 0 < sz := by simpa using h0
  split at h
  case h_2 => simp [stuckP] at h
  rename_i hlen
  have hlen := Nat.eq_of_beq_eq_true hlen
  split at h
  case h_2 => simp [stuckP] at h
  rename_i hle
  have hle := Nat.le_of_ble_eq_true hle
  split at h
  case h_2 => simp [stuckP] at h
  rename_i l hl
  split at h
  case h_2 => simp [stuckP] at h
  rename_i xs hxs
  simp only [needP_iff] at h
  obtain ⟨hsz, h⟩ := h
  have hu := (hT t).und
  rw [ht] at hu
  obtain ⟨hun, i, z, hi, hsi, hbi, hz, hzs⟩ := hu
  refine ⟨_, h, fun nx H => .run (Ids.le.refl _) fun oo n0 d0 F c a w ho he hw => ⟨rfl, ?_⟩⟩
  obtain ⟨hp1, hp2⟩ := ordP_spec a hl
  obtain ⟨h1, h2⟩ := RdL_evL (c := c) (w := w) (nx := nx) (A := A) (a := a) l fun x hx => he x (by
    rw [← hp1] at hx; simp [Op.operands]; simpa using hx)
  obtain ⟨hxl, hxr⟩ := pureAll_rp hxs h1
  have hll : l.length = len := by rw [← hp1]; simpa using hlen
  have hxlen : xs.length = len := by rw [hxl]; simpa using hll
  obtain ⟨hw', hs, hla⟩ := hw.keep ((l.map a.eval).flatMap fun v => v.cells.toList).toArray e
  have hvs : ∀ v ∈ l.map a.eval, v.cells.size = i.size := fun v hv => by
    obtain ⟨j, hj⟩ := List.getElem?_of_mem hv
    have hjl := (List.getElem?_eq_some_iff.1 hj).1
    have hjx : xs[j]? = some (xs[j]'(by omega)) := List.getElem?_eq_getElem _
    rw [(hxr j _ v hjx hj).cells_len, hsi]
    exact hsz _ (List.getElem_mem _)
  have hi0 : 0 < i.size := by omega
  by_cases hl0 : len = 0
  · -- the empty literal
    have hnil : l = [] := List.length_eq_zero_iff.1 (by omega)
    have hxn : xs = [] := List.length_eq_zero_iff.1 (by omega)
    have hpn : parts = #[] := by
      have : parts.toList = [] := List.length_eq_zero_iff.1 (by omega)
      apply Array.toList_inj.1; simpa using this
    subst hnil
    subst hxn
    subst hl0
    subst hpn
    refine ⟨.slice (some ⟨w.heap.size, 0, none⟩) 0 0, w.alloc (.cells #[] e), .inl ?_, { c with K := fun g o => c.K g o ∨ g = w.heap.size }, ⟨?_, _, rfl⟩, by simpa using hw', by simpa using hs, by simpa using hla⟩
    · unfold execOp
      simp only [ho, Sem.run_bind, Instr.buildSlice, run_underlying hun, Result.andThen_ok, Go.sizeOf, info_run hi, Sem.run_pure]
      simp [Instr.fill, newRow]
      congr 2
      apply Array.toList_inj.1
      simp
    · exact .list w.heap.size 0 0 sz [] (fun _ => undef) (by simp) (by simp) (by simp) (by simp)
  · have hfill := Great.fill_whole hi0 (l.map a.eval) ((Array.range (len * i.size)).map (z.cells[· % z.cells.size]!)) hvs (by simp [hll])
    have hrun := run_buildSlice (P := P) w t e len (parts.map fun x => (x.1, a.eval x.2)) _ i z hun hi hz (by rw [hsi]; omega) (by
      intro h0'
      rcases Nat.mul_eq_zero.1 h0' with h | h <;> omega) (by
      have : (parts.map fun x => (x.1, a.eval x.2)).toList = ((l.map a.eval).zipIdx 0).map fun x => (x.2, x.1) := by rw [Array.toList_map]; exact hp2
      rw [this]; exact hfill)
    refine ⟨.slice (some ⟨w.heap.size, 0, none⟩) len len, _, .inl ?_, { c with K := fun g o => c.K g o ∨ g = w.heap.size }, ⟨?_, some ⟨w.heap.size, 0, none⟩, by rw [hxlen]⟩, hw', hs, hla⟩
    · unfold execOp
      simp only [ho, Sem.run_bind, hrun, Result.andThen_ok, Sem.run_pure]
    · rw [← hxlen]
      have hget : ∀ (k : Nat), ((l.map a.eval).flatMap fun v => v.cells.toList)[k]? = ((l.map a.eval)[k / sz]?).bind (fun v => v.cells[k % sz]?) := by
        have := Great.flat_get hi0 (l.map a.eval) hvs
        rw [hsi] at this; exact this
      have key : ∀ (i' : Nat) (x : Pd) (j : Nat) (q : Pd), xs[i']? = some x → x.cells[j]? = some q → ∃ u, ((l.map a.eval).flatMap fun v => v.cells.toList)[i' * sz + j]? = some u ∧ u.oneCell' = true ∧ Rp c.K w q u := by
        intro i' x j q hx hq
        have hxc : x.cells.length = sz := hsz x (List.mem_of_getElem? hx)
        have hj : j < sz := by rw [← hxc]; exact (List.getElem?_eq_some_iff.1 hq).1
        have hi' : i' < xs.length := (List.getElem?_eq_some_iff.1 hx).1
        have hv : (l.map a.eval)[i']? = some ((l.map a.eval)[i']'(by omega)) := List.getElem?_eq_getElem _
        obtain ⟨u, hu, ho1, hr⟩ := (hxr i' x _ hx hv).cell_get hq
        refine ⟨u, ?_, ho1, hr⟩
        rw [hget, show (i' * sz + j) / sz = i' by rw [Nat.mul_comm, Nat.mul_add_div h0, Nat.div_eq_of_lt hj, Nat.add_zero], show (i' * sz + j) % sz = j by rw [Nat.mul_comm, Nat.mul_add_mod, Nat.mod_eq_of_lt hj], hv]
        exact hu
      refine Rp.mkList (us := (l.map a.eval).flatMap fun v => v.cells.toList) (Nat.le_refl _) hsz (fun t u hu => ⟨.inr rfl, ?_, ?_⟩) fun i' y j q hy hq => ?_
      · rw [cell_of_row _ _ t _ _ _ (heap_alloc_new w _)]
        simpa using hu
      · rw [hget] at hu
        cases hv : (l.map a.eval)[t / sz]? with
        | none => simp [hv] at hu
        | some v =>
          simp [hv] at hu
          have hx : xs[t / sz]? = some (xs[t / sz]'(by rw [hxl]; exact (List.getElem?_eq_some_iff.1 hv).1)) := List.getElem?_eq_getElem _
          have hr := hxr _ _ v hx hv
          have hlt : t % sz < v.cells.size := (Array.getElem?_eq_some_iff.1 hu).1
          rw [hr.cells_len] at hlt
          obtain ⟨u', hu', ho1, _⟩ := hr.cell_get (List.getElem?_eq_getElem hlt)
          rw [hu] at hu'
          cases hu'
          exact ho1
      · obtain ⟨u, hu, _, hr⟩ := key i' y j q hy hq
        exact ⟨u, hu, hr.mono hs.k⟩

end Qa

namespace Qa
open Go

-- build: a struct by its parts
def fillD : List (Nat × Nat) → List D → List (Nat × Operand) → Tmps → Option (List D)
  | _, cs, [], _ => some cs
  | fs, cs, (j, x) :: r, A => match fs[j]? with
    | some (off, sz) => match Nat.beq (ev A x).cells.length sz with
      | true => match allOne (ev A x).cells with
        | true => match splice cs off (ev A x).cells with
          | some cs' => fillD fs cs' r A
          | none => none
        | false => none
      | false => none
    | none => none

def buildK (T : Ty) (t : TypeId) (parts : List (Nat × Operand)) (A : Tmps) (K : D → Prop) : Prop :=
  match (T t).d with
  | .struct fs => match fillD fs (T t).zero parts A with
    | some cs => match allOne cs with
      | true => K (mkAgg cs)
      | false => stuckP "build"
    | none => stuckP "build"
  | _ => stuckP "build"

theorem fill_at {c : Cx} {w : World} {cs cs' : List D} {cells : Array Value} {d : D} {v : Value} {off : Nat} (hr : RdL c w cs cells.toList) (hd : RdL c w d.cells v.cells.toList) (hs : splice cs off d.cells = some cs') :
    RdL c w cs' (v.cells.zipIdx.foldl (fun (cs : Array Value) (x : Value × Nat) => cs.setIfInBounds (off + x.2) x.1) cells).toList ∧ off + v.cells.size ≤ cells.size ∧
      (v.cells.zipIdx.foldl (fun (cs : Array Value) (x : Value × Nat) => cs.setIfInBounds (off + x.2) x.1) cells).size = cells.size := by
  obtain ⟨h1, h2⟩ := splice_eq hs
  have hl := RdL_len hr
  have hld := RdL_len hd
  simp only [Array.length_toList] at hl hld
  have e : v.cells.zipIdx.foldl (fun (cs : Array Value) (x : Value × Nat) => cs.setIfInBounds (off + x.2) x.1) cells =
      (v.cells.toList.zipIdx 0).foldl (fun (cs : Array Value) (x : Value × Nat) => cs.setIfInBounds (off + x.2) x.1) cells := by
    rw [← Array.foldl_toList, Array.toList_zipIdx]
  obtain ⟨g1, g2⟩ := Great.foldl_set off v.cells.toList 0 cells
  rw [e]
  refine ⟨?_, by omega, g1⟩
  have : ((v.cells.toList.zipIdx 0).foldl (fun (cs : Array Value) (x : Value × Nat) => cs.setIfInBounds (off + x.2) x.1) cells).toList =
      cells.toList.take off ++ v.cells.toList ++ cells.toList.drop (off + d.cells.length) := by
    apply List.ext_getElem?
    intro k
    rw [Array.getElem?_toList, g2 k]
    simp only [Nat.add_zero, Array.length_toList]
    by_cases hk : k < off
    · rw [if_neg (by omega), List.append_assoc, List.getElem?_append_left (by simp; omega), List.getElem?_take, if_pos hk]; simp
    · by_cases hk2 : k < off + v.cells.size
      · rw [if_pos (by omega), List.append_assoc, List.getElem?_append_right (by simp; omega), List.getElem?_append_left (by simp; omega)]
        congr 1; simp; omega
      · rw [if_neg (by omega), List.append_assoc, List.getElem?_append_right (by simp; omega), List.getElem?_append_right (by simp; omega), List.getElem?_drop]
        simp only [List.length_take, Array.length_toList, Array.getElem?_toList]
        congr 1; omega
  rw [this, h2]
  exact RdL_append (RdL_append (RdL_take off hr) hd) (RdL_drop _ hr)

theorem splice_under {n : Ids} {cs cs' ds : List D} {o : Nat} (h : splice cs o ds = some cs') (h1 : underL n cs = true) (h2 : underL n ds = true) : underL n cs' = true := by
  obtain ⟨_, e⟩ := splice_eq h
  rw [e]; exact underL_append (underL_append (underL_take _ h1) h2) (underL_drop _ h1)

theorem fillD_sound {c : Cx} {w : World} {nx : Ids} {A : Tmps} {a : Act} {place : Nat → Option (Nat × Nat)} {fs : List (Nat × Nat)} (hp : ∀ j off sz, fs[j]? = some (off, sz) → place j = some (off, sz)) :
    ∀ (parts : List (Nat × Operand)) (cs cs' : List D) (cells : Array Value), fillD fs cs parts A = some cs' → (∀ x ∈ parts.map (·.2), Rd c w (ev A x) (a.eval x) ∧ (ev A x).under nx = true) →
      RdL c w cs cells.toList → underL nx cs = true →
      ∃ cells', Instr.fill place cells (parts.map fun x => (x.1, a.eval x.2)) = some cells' ∧ RdL c w cs' cells'.toList ∧ underL nx cs' = true
  | [], cs, cs', cells, h, _, hr, hu => by simp [fillD] at h; subst h; exact ⟨cells, rfl, hr, hu⟩
  | (j, x) :: r, cs, cs', cells, h, he, hr, hu => by
    simp only [fillD] at h
    split at h
    case h_2 => cases h
    rename_i off sz hj
    split at h
    case h_2 => cases h
    rename_i hsz
    have hsz := Nat.eq_of_beq_eq_true hsz
    split at h
    case h_2 => cases h
    rename_i h1
    split at h
    case h_2 => cases h
    rename_i cs1 hs
    obtain ⟨hrx, hux⟩ := he x (by simp)
    have hd := (Rd_cells hrx h1).1
    obtain ⟨g1, g2, g3⟩ := fill_at hr hd hs
    have hlen := RdL_len hd
    obtain ⟨cells', k1, k2, k3⟩ := fillD_sound hp r cs1 cs' _ h (fun y hy => he y (by simp at hy ⊢; exact .inr hy)) g1 (splice_under hs hu (cells_under hux))
    refine ⟨cells', ?_, k2, k3⟩
    simp only [List.map_cons, Instr.fill, hp j off sz hj]
    have hc : ¬ ((a.eval x).cells.size ≠ sz ∨ off + (a.eval x).cells.size > cells.size) := by
      simp only [Array.length_toList] at hlen
      omega
    have hc' : (decide ((a.eval x).cells.size ≠ sz) || decide (off + (a.eval x).cells.size > cells.size)) = false := by simpa using hc
    simp only [hc', Bool.false_eq_true, if_false]
    exact k1

theorem buildK_sound {P : Program} {T : Ty} (hT : TyOk P T) {t : TypeId} {parts : Array (Nat × Operand)} {A : Tmps} {K : D → Prop} (h : buildK T t parts.toList A K) :
    ∃ d, K d ∧ ∀ (nx : Ids) (H : Heap), OpOut P (.build t parts) A H nx d H nx := by
  unfold buildK at h
  split at h
  case h_2 => simp [stuckP] at h
  rename_i fs ht
  split at h
  case h_2 => simp [stuckP] at h
  rename_i cs hf
  split at h
  case h_2 => simp [stuckP] at h
  rename_i h1
  have hu := (hT t).und
  rw [ht] at hu
  obtain ⟨fields, hun, hlen, hfs⟩ := hu
  obtain ⟨f, z, hi, hsz, hz, hv, hl⟩ := (hT t).info (by rw [ht]; simp)
  refine ⟨_, h, fun nx H => .value fun oo n0 d0 F c a w ho he hw => ?_⟩
  obtain ⟨hr0, hone0⟩ := vEqL_rd c w _ _ hv
  have hu0 : underL nx (T t).zero = true := underL_mk fun d hd => by
    have : ∀ (ds : List D) (vs : List Value), vEqL ds vs = true → ∀ d ∈ ds, d.under nx = true := by
      intro ds
      induction ds with
      | nil => intro _ _ d hd; simp at hd
      | cons x ds ih =>
        intro vs h d hd
        cases vs with
        | nil => simp [vEqL] at h
        | cons v vs =>
          simp only [vEqL, Bool.and_eq_true] at h
          rcases List.mem_cons.1 hd with rfl | hd
          · have h0 := h.1
            unfold vEq at h0
            split at h0 <;> first | rfl | (simp at h0)
          · exact ih vs h.2 d hd
    exact this _ _ hv d hd
  -- the places
  have hplaces : ∀ (l : List Field), (∀ f ∈ l, ∃ i, P.info? f.type = some i) → ∃ ps : List (Nat × Nat), (l.mapM (m := Sem) fun f => do pure (f.offset, ← Go.sizeOf f.type)).run P w = .ok ps w ∧
      ∀ (j : Nat) (f : Field) (i : TypeInfo), l[j]? = some f → P.info? f.type = some i → ps[j]? = some (f.offset, i.size) := by
    intro l
    induction l with
    | nil => intro _; exact ⟨[], by simp, by simp⟩
    | cons f l ih =>
      intro hl
      obtain ⟨i, hi⟩ := hl f (by simp)
      obtain ⟨ps, h1, h2⟩ := ih fun g hg => hl g (by simp [hg])
      refine ⟨(f.offset, i.size) :: ps, ?_, fun j g i' hj hi' => ?_⟩
      · rw [List.mapM_cons]
        simp only [Sem.run_bind, Go.sizeOf, info_run hi, Result.andThen_ok, Sem.run_pure] at h1 ⊢
        rw [h1]; rfl
      · cases j with
        | zero => simp at hj; subst hj; rw [hi] at hi'; cases hi'; rfl
        | succ j => simp at hj; simpa using h2 j g i' hj hi'
  have hall : ∀ f ∈ fields.toList, ∃ i, P.info? f.type = some i := fun g hg => by
    obtain ⟨j, hj⟩ := List.getElem?_of_mem hg
    have hlt : j < fs.length := by rw [← hlen]; have := (List.getElem?_eq_some_iff.1 hj).1; simpa using this
    obtain ⟨g', i', h1, _, h3, _⟩ := hfs j (fs[j]).1 (fs[j]).2 (by simp [hlt])
    have : g = g' := by rw [Array.getElem?_toList, h1] at hj; cases hj; rfl
    subst this; exact ⟨i', h3⟩
  obtain ⟨ps, hps, hget⟩ := hplaces fields.toList hall
  have hplace : ∀ j off sz, fs[j]? = some (off, sz) → ps.toArray[j]? = some (off, sz) := fun j off sz hj => by
    obtain ⟨g, i', h1, h2, h3, h4⟩ := hfs j off sz hj
    have := hget j g i' (by simpa using h1) h3
    rw [h2, h4] at this
    exact (Array.getElem?_toList (xs := ps.toArray) (i := j)).symm.trans this
  obtain ⟨cells', k1, k2, k3⟩ := fillD_sound (c := c) (w := w) (nx := nx) (A := A) (a := a) (place := fun j => ps.toArray[j]?) hplace parts.toList _ cs z.cells hf
    (fun x hx => he x (by simp [Op.operands]; simpa using hx)) hr0 hu0
  have hone := RdL_one k2 h1
  refine ⟨mkAgg_under k3, .agg cells', ?_, by have := Rd_mkAgg k2 hone; simpa using this⟩
  have hz' : (zeroValue t).run P w = .ok z w := by
    simp only [zeroValue, Sem.run_bind, info_run hi, Result.andThen_ok, hz, Sem.run_pure]
  have hps' : (fields.mapM (m := Sem) fun f => do pure (f.offset, ← Go.sizeOf f.type)).run P w = .ok ps.toArray w := by
    rw [Array.mapM_eq_mapM_toList]
    rw [map_eq_pure_bind, Sem.run_bind, hps]; rfl
  have hpm : (parts.map fun x => (x.1, a.eval x.2)).toList = parts.toList.map fun x => (x.1, a.eval x.2) := Array.toList_map
  unfold execOp
  simp only [ho, Instr.build, Sem.run_bind, hz', Result.andThen_ok, run_underlying hun, hps']
  rw [hpm, k1]
  rfl

end Qa

namespace Qa
open Go

/-- a bound of a slice expression. -/
def bndK (x : Option Operand) (A : Tmps) (dflt : Int) (K : Int → Prop) : Prop :=
  match x with
  | none => K dflt
  | some o => match ev A o with
    | .p (.int _ n) => K n
    | _ => stuckP "slice: bound"

theorem bndK_inv {x : Option Operand} {A : Tmps} {dflt : Int} {K : Int → Prop} (h : bndK x A dflt K) : ∃ n, K n ∧ ((x = none ∧ n = dflt) ∨ ∃ o k, x = some o ∧ ev A o = .p (.int k n)) := by
  unfold bndK at h
  split at h
  · exact ⟨_, h, .inl ⟨rfl, rfl⟩⟩
  · split at h
    · rename_i k n he; exact ⟨_, h, .inr ⟨_, k, rfl, he⟩⟩
    · simp [stuckP] at h

def mxOk (hi mx : Option Operand) : Bool :=
  match mx with
  | none => true
  | some _ => match hi with | none => false | some _ => true

def sliceK (T : Ty) (t : TypeId) (x : D) (lo hi mx : Option Operand) (A : Tmps) (K : D → Prop) : Prop :=
  match (T t).d with
  | .slice _ sz _ => match x with
    | .ms b sz' o n cap => match Nat.beq sz sz' with
      | true => bndK mx A cap fun m => bndK hi A n fun h => bndK lo A 0 fun l => match mxOk hi mx with
        | false => stuckP "slice: max without high"
        | true => needP (0 ≤ l ∧ l ≤ h ∧ h ≤ m ∧ m ≤ cap) (K (.ms b sz (o + l.toNat * sz) (h.toNat - l.toNat) (m.toNat - l.toNat)))
      | false => stuckP "slice"
    | x => match x.list? with
      | some xs => match mx with
        | none => bndK hi A xs.length fun h => bndK lo A 0 fun l =>
            needP (0 ≤ l ∧ l ≤ h ∧ h ≤ xs.length ∧ ∀ x ∈ xs, x.cells.length = sz) (K (.p (.list ((xs.take h.toNat).drop l.toNat))))
        | some _ => bndK mx A 0 fun m => bndK hi A m fun h => bndK lo A 0 fun l => match mxOk hi mx with
          | false => stuckP "slice: max without high"
          | true => needP (0 ≤ l ∧ l ≤ h ∧ h = m ∧ m ≤ xs.length ∧ ∀ x ∈ xs, x.cells.length = sz) (K (.full ((xs.take h.toNat).drop l.toNat)))
      | none => stuckP "slice"
  | .str => match x with
    | .p (.str s) => match mx with
      | none => bndK hi A s.size fun h => bndK lo A 0 fun l => needP (0 ≤ l ∧ l ≤ h ∧ h ≤ s.size) (K (.p (.str (s.extract l.toNat h.toNat))))
      | some _ => stuckP "slice"
    | _ => stuckP "slice"
  | .arr n _ sz => match x with
    | .ref b o => match lo with
      | none => match hi with
        | none => match mx with
          | none => K (.ms b sz o n n)
          | some _ => stuckP "slice: array"
        | some _ => stuckP "slice: array"
      | some _ => stuckP "slice: array"
    | _ => stuckP "slice: array"
  | _ => stuckP "slice"

theorem bound_run {P : Program} (x : Value) (k : IntKind) (n : Int) (y : Nat) (code : BoundsCode) (hx : x = .int k n) (h0 : 0 ≤ n) (h1 : n ≤ y) (w : World) : (Instr.sliceBound x y code).run P w = .ok n.toNat w := by
  subst hx
  simp [Instr.sliceBound, asIntOf, h0, h1]

theorem bounds_run {P : Program} {A : Tmps} {a : Act} {c : Cx} {w : World} {nx : Ids} {lo hi mx : Option Operand} {l h m : Int} {isS : Bool} {len cap : Nat}
    (he : ∀ x ∈ lo.toList ++ hi.toList ++ mx.toList, Rd c w (ev A x) (a.eval x) ∧ (ev A x).under nx = true)
    (hl : (lo = none ∧ l = 0) ∨ ∃ o k, lo = some o ∧ ev A o = .p (.int k l)) (hh : (hi = none ∧ h = len ∧ mx = none) ∨ ∃ o k, hi = some o ∧ ev A o = .p (.int k h))
    (hm : (mx = none ∧ m = cap) ∨ ∃ o k, mx = some o ∧ ev A o = .p (.int k m)) (h0 : 0 ≤ l) (h1 : l ≤ h) (h2 : h ≤ m) (h3 : m ≤ cap) :
    (Instr.sliceBounds isS len cap (lo.map a.eval) (hi.map a.eval) (mx.map a.eval)).run P w = .ok (l.toNat, h.toNat, m.toNat) w := by
  have val : ∀ (o : Operand) (k : IntKind) (n : Int), o ∈ lo.toList ++ hi.toList ++ mx.toList → ev A o = .p (.int k n) → a.eval o = .int k n := fun o k n ho h => by
    have := (he o ho).1; rw [h] at this; exact Rp.int_inv this
  have rl : ∀ (ol : Operand) (kl : IntKind) (code : BoundsCode), lo = some ol → ev A ol = .p (.int kl l) → (Instr.sliceBound (a.eval ol) h.toNat code).run P w = .ok l.toNat w :=
    fun ol kl code e ho => bound_run _ kl l _ code (val ol kl l (by simp [e]) ho) h0 (by omega) w
  unfold Instr.sliceBounds
  rcases hm with ⟨rfl, rfl⟩ | ⟨om, km, rfl, hom⟩
  · rcases hh with ⟨rfl, rfl, _⟩ | ⟨oh, kh, rfl, hoh⟩
    · rcases hl with ⟨rfl, rfl⟩ | ⟨ol, kl, rfl, hol⟩
      · simp
      · have r := fun code => rl ol kl code rfl hol
        simp only [Int.toNat_natCast] at r
        simp [r]
    · have rh : ∀ (code : BoundsCode), (Instr.sliceBound (a.eval oh) cap code).run P w = .ok h.toNat w := fun code => bound_run _ kh h cap code (val oh kh h (by simp) hoh) (by omega) h2 w
      rcases hl with ⟨rfl, rfl⟩ | ⟨ol, kl, rfl, hol⟩
      · cases isS <;> simp [rh]
      · have r := fun code => rl ol kl code rfl hol
        cases isS <;> simp [rh, r]
  · have rm : ∀ (code : BoundsCode), (Instr.sliceBound (a.eval om) cap code).run P w = .ok m.toNat w := fun code => bound_run _ km m cap code (val om km m (by simp) hom) (by omega) h3 w
    rcases hh with ⟨_, _, h⟩ | ⟨oh, kh, rfl, hoh⟩
    · cases h
    · have rh : ∀ (code : BoundsCode), (Instr.sliceBound (a.eval oh) m.toNat code).run P w = .ok h.toNat w := fun code => bound_run _ kh h _ code (val oh kh h (by simp) hoh) (by omega) (by omega) w
      rcases hl with ⟨rfl, rfl⟩ | ⟨ol, kl, rfl, hol⟩
      · cases isS <;> simp [rm, rh]
      · have r := fun code => rl ol kl code rfl hol
        cases isS <;> simp [rm, rh, r]

theorem Rp.sub {K : Nat → Nat → Prop} {w : World} {g o cap sz : Nat} {xs : List Pd} {l h m : Nat} (hr : Rp K w (.list xs) (.slice (some ⟨g, o, none⟩) xs.length cap)) (hsz : ∀ x ∈ xs, x.cells.length = sz)
    (h1 : l ≤ h) (h2 : h ≤ xs.length) (h3 : h ≤ m) (b : Option Addr) (hb : b = some ⟨g, o + l * sz, none⟩ ∨ (m = l ∧ ∃ q, b = some ⟨g, q, none⟩)) :
    Rp K w (.list ((xs.take h).drop l)) (.slice b (h - l) (m - l)) := by
  have hlen : ((xs.take h).drop l).length = h - l := by simp; omega
  generalize hv : Value.slice (some ⟨g, o, none⟩) xs.length cap = v at hr
  generalize hx : Pd.list xs = px at hr
  cases hr with
  | list g' o' cap' sz' xs' u hcap hs hc hr =>
    cases hx
    cases hv
    rw [← hlen]
    rcases hb with rfl | ⟨hml, q, rfl⟩
    · refine .list g (o + l * sz) (m - l) sz _ (fun t => u (l * sz + t)) (by omega) (fun i x hx => hsz x (List.mem_of_mem_take (List.mem_of_mem_drop (List.mem_of_getElem? hx)))) (fun i x j c hx hj => ?_) fun i x j c hx hj => ?_
      · rw [List.getElem?_drop, List.getElem?_take] at hx
        split at hx
        case isFalse => cases hx
        have e : sz' = sz := by rw [← hs _ x hx]; exact hsz x (List.mem_of_getElem? hx)
        subst e
        have := hc _ x j c hx hj
        rw [show o + l * sz' + i * sz' + j = o + (l + i) * sz' + j by rw [Nat.add_mul]; omega, show l * sz' + (i * sz' + j) = (l + i) * sz' + j by rw [Nat.add_mul]; omega]
        exact this
      · rw [List.getElem?_drop, List.getElem?_take] at hx
        split at hx
        case isFalse => cases hx
        have e : sz' = sz := by rw [← hs _ x hx]; exact hsz x (List.mem_of_getElem? hx)
        subst e
        have := hr _ x j c hx hj
        rw [show l * sz' + (i * sz' + j) = (l + i) * sz' + j by rw [Nat.add_mul]; omega]
        exact this
    · have hnil : (xs.take h).drop l = [] := List.length_eq_zero_iff.1 (by omega)
      rw [hnil]
      exact .list g q (m - l) sz [] (fun _ => undef) (by simp) (by simp) (by simp) (by simp)
  | int => cases hx
  | bool => cases hx
  | str => cases hx
  | agg => cases hx
  | nil => cases hv
  | nila a =>
    cases hx
    have e1 : h = 0 := by simpa using h2
    subst e1
    have e2 : l = 0 := by omega
    subst e2
    have : ∃ q, b = some ⟨g, q, none⟩ := by rcases hb with h | ⟨_, h⟩; exact ⟨_, h⟩; exact h
    obtain ⟨q, rfl⟩ := this
    exact .list g q (m - 0) sz [] (fun _ => undef) (by simp) (by simp) (by simp) (by simp)

theorem sliceK_sound {P : Program} {T : Ty} (hT : TyOk P T) {t : TypeId} {x : Operand} {lo hi mx : Option Operand} {A : Tmps} {K : D → Prop} (h : sliceK T t (ev A x) lo hi mx A K) :
    ∃ d, K d ∧ ∀ (nx : Ids) (H : Heap), OpOut P (.slice t x lo hi mx) A H nx d H nx := by
  have hops : ∀ y ∈ lo.toList ++ hi.toList ++ mx.toList, y ∈ (Op.slice t x lo hi mx).operands := fun y hy => by
    simp [Op.operands] at hy ⊢; exact .inr hy
  unfold sliceK at h
  split at h
  case h_4 => simp [stuckP] at h
  · rename_i e sz by_ ht
    have hu := (hT t).und
    rw [ht] at hu
    obtain ⟨hun, i, z, hi', hsi, _⟩ := hu
    have run : ∀ (oo : Oper) (a : Act) (w : World) (base : Option Addr) (len cap l hh m : Nat), oo.op = .slice t x lo hi mx → a.eval x = .slice base len cap →
        (Instr.sliceBounds true len cap (lo.map a.eval) (hi.map a.eval) (mx.map a.eval)).run P w = .ok (l, hh, m) w →
        (execOp a.eval oo).run P w = .ok (.value (.slice (if m = l then base else base.map (·.add (l * sz))) (hh - l) (m - l))) w := by
      intro oo a w base len cap l hh m ho hx hb
      unfold execOp
      simp only [ho, Instr.sliceAt, Instr.slice, hx, Sem.run_bind, run_underlying hun, Result.andThen_ok, hb, Go.sizeOf, info_run hi', Sem.run_pure, hsi]
    split at h
    · rename_i b sz' o n cap hx
      split at h
      case h_2 => simp [stuckP] at h
      rename_i hb
      have hb := Nat.eq_of_beq_eq_true hb
      subst hb
      obtain ⟨m, h, hm⟩ := bndK_inv h
      obtain ⟨hh, h, hhh⟩ := bndK_inv h
      obtain ⟨l, h, hl⟩ := bndK_inv h
      split at h
      · simp [stuckP] at h
      rename_i hmo
      simp only [needP_iff] at h
      obtain ⟨⟨c1, c2, c3, c4⟩, hk⟩ := h
      refine ⟨_, hk, fun nx H => .value fun oo n0 d0 F c a w ho he hw => ?_⟩
      obtain ⟨hr, hu⟩ := he x (by simp [Op.operands])
      rw [hx] at hr hu
      obtain ⟨o', hxv, ho', hnc⟩ := hr
      have hmx : ¬ (hi = none ∧ mx ≠ none) := by
        rintro ⟨h1, h2⟩
        cases mx with
        | none => exact h2 rfl
        | some _ => simp [mxOk, h1] at hmo
      have hb := bounds_run (P := P) (isS := true) (len := n) (cap := cap) (fun y hy => he y (hops y hy)) hl (by
        rcases hhh with ⟨h1, h2⟩ | h
        · exact .inl ⟨h1, h2, Classical.byContradiction fun hne => hmx ⟨h1, hne⟩⟩
        · exact .inr h) (hm.imp id id) c1 c2 c3 c4
      refine ⟨by simpa [D.under] using hu, _, run oo a w _ _ _ _ _ _ ho hxv hb, ?_⟩
      by_cases hml : m.toNat = l.toNat
      · rw [if_pos hml]; exact ⟨o', rfl, fun hne => by omega, by omega⟩
      · rw [if_neg hml]
        have : cap ≠ 0 := by omega
        exact ⟨o' + l.toNat * sz, by simp [add_none], fun _ => by rw [ho' this], by omega⟩
    · split at h
      case h_2 => simp [stuckP] at h
      rename_i xs hxs
      have pure_ : ∀ (l q m : Int) (d : D), ((lo = none ∧ l = 0) ∨ ∃ o k, lo = some o ∧ ev A o = .p (.int k l)) → ((hi = none ∧ q = xs.length ∧ mx = none) ∨ ∃ o k, hi = some o ∧ ev A o = .p (.int k q)) →
          (mx = none ∨ ∃ o k, mx = some o ∧ ev A o = .p (.int k m)) → 0 ≤ l → l ≤ q → q ≤ xs.length → (mx ≠ none → q = m) → (∀ x ∈ xs, x.cells.length = sz) →
          ((mx = none ∧ d = .p (.list ((xs.take q.toNat).drop l.toNat))) ∨ (mx ≠ none ∧ d = .full ((xs.take q.toNat).drop l.toNat))) → ∀ (nx : Ids) (H : Heap), OpOut P (.slice t x lo hi mx) A H nx d H nx := by
        intro l q m d hl hh hm c1 c2 c3 c4 hsz hd nx H
        refine .value fun oo n0 d0 F c a w ho he hw => ?_
        obtain ⟨hr, _⟩ := he x (by simp [Op.operands])
        have hrp := list?_rp hxs hr
        have hu : d.under nx = true := by rcases hd with ⟨_, rfl⟩ | ⟨_, rfl⟩ <;> rfl
        refine ⟨hu, ?_⟩
        have hlen : ((xs.take q.toNat).drop l.toNat).length = q.toNat - l.toNat := by simp; omega
        generalize hxv : a.eval x = v at hrp
        generalize hpx : Pd.list xs = px at hrp
        cases hrp with
        | int => cases hpx
        | bool => cases hpx
        | str => cases hpx
        | agg => cases hpx
        | nila ad =>
          cases hpx
          have e1 : l = 0 := by simp at c3; omega
          have e2 : q = 0 := by simp at c3; omega
          subst e1
          subst e2
          have hb := bounds_run (P := P) (isS := true) (len := 0) (cap := 0) (h := 0) (m := 0) (fun y hy => he y (hops y hy)) hl (by simpa using hh) (by
            rcases hm with hm | ⟨o, k, hm, ho⟩
            · exact .inl ⟨hm, rfl⟩
            · have := c4 (by simp [hm]); subst this; exact .inr ⟨o, k, hm, ho⟩) (by omega) (by omega) (by omega) (by omega)
          refine ⟨_, run oo a w (some ad) 0 0 _ _ _ ho hxv hb, ?_⟩
          rcases hd with ⟨_, rfl⟩ | ⟨_, rfl⟩
          · simp; exact .nila ad
          · simp; exact ⟨.nila ad, some ad, rfl⟩
        | nil =>
          cases hpx
          have e1 : l = 0 := by simp at c3; omega
          have e2 : q = 0 := by simp at c3; omega
          subst e1
          subst e2
          have hb := bounds_run (P := P) (isS := true) (len := 0) (cap := 0) (h := 0) (m := 0) (fun y hy => he y (hops y hy)) hl (by simpa using hh) (by
            rcases hm with hm | ⟨o, k, hm, ho⟩
            · exact .inl ⟨hm, rfl⟩
            · have := c4 (by simp [hm]); subst this; exact .inr ⟨o, k, hm, ho⟩) (by omega) (by omega) (by omega) (by omega)
          refine ⟨_, run oo a w none 0 0 _ _ _ ho hxv hb, ?_⟩
          rcases hd with ⟨_, rfl⟩ | ⟨_, rfl⟩
          · simp; exact .nil
          · simp; exact ⟨.nil, none, rfl⟩
        | list g o cap sz' _ u hcap hs hc hr' =>
          cases hpx
          have hmc : ∃ m' : Int, ((mx = none ∧ m' = cap) ∨ ∃ o k, mx = some o ∧ ev A o = .p (.int k m')) ∧ q ≤ m' ∧ m' ≤ cap ∧ (mx ≠ none → m' = q) := by
            rcases hm with hm | ⟨o, k, hm, ho⟩
            · exact ⟨cap, .inl ⟨hm, rfl⟩, by omega, Int.le_refl _, fun hne => absurd hm hne⟩
            · have := c4 (by simp [hm])
              exact ⟨m, .inr ⟨o, k, hm, ho⟩, by omega, by omega, fun _ => this.symm⟩
          obtain ⟨m', hm1, hm2, hm3, hm4⟩ := hmc
          have hb := bounds_run (P := P) (isS := true) (len := xs.length) (cap := cap) (fun y hy => he y (hops y hy)) hl hh hm1 c1 c2 hm2 hm3
          refine ⟨_, run oo a w _ _ cap _ _ _ ho hxv hb, ?_⟩
          have hR := Rp.sub (.list g o cap sz' xs u hcap hs hc hr') hsz (l := l.toNat) (h := q.toNat) (m := m'.toNat) (by omega) (by omega) (by omega)
            (if m'.toNat = l.toNat then (some ⟨g, o, none⟩ : Option Addr) else (some (⟨g, o, none⟩ : Addr)).map (·.add (l.toNat * sz))) (by
              by_cases hml : m'.toNat = l.toNat
              · rw [if_pos hml]; exact .inr ⟨hml, o, rfl⟩
              · rw [if_neg hml]; exact .inl (by simp [add_none]))
          rcases hd with ⟨_, rfl⟩ | ⟨hne, rfl⟩
          · exact hR
          · refine ⟨?_, _, by rw [hlen, hm4 hne]⟩
            exact hR
      split at h
      · obtain ⟨hh, h, hhh⟩ := bndK_inv h
        obtain ⟨l, h, hl⟩ := bndK_inv h
        simp only [needP_iff] at h
        obtain ⟨⟨c1, c2, c3, c4⟩, hk⟩ := h
        exact ⟨_, hk, pure_ l hh 0 _ hl (hhh.imp (fun ⟨a, b⟩ => ⟨a, b, rfl⟩) id) (.inl rfl) c1 c2 c3 (fun h => absurd rfl h) c4 (.inl ⟨rfl, rfl⟩)⟩
      · obtain ⟨m, h, hm⟩ := bndK_inv h
        obtain ⟨hh, h, hhh⟩ := bndK_inv h
        obtain ⟨l, h, hl⟩ := bndK_inv h
        split at h
        · simp [stuckP] at h
        rename_i hmo
        simp only [needP_iff] at h
        obtain ⟨⟨c1, c2, c3, c4, c5⟩, hk⟩ := h
        rcases hhh with ⟨h1, h2⟩ | hhh
        · simp [mxOk, h1] at hmo
        · refine ⟨_, hk, pure_ l hh m _ hl (.inr hhh) (.inr ?_) c1 c2 (by omega) (fun _ => c3) c5 (.inr ⟨by simp, rfl⟩)⟩
          rcases hm with ⟨hm, _⟩ | hm
          · cases hm
          · exact hm
  · rename_i ht
    have hu := (hT t).und
    rw [ht] at hu
    split at h
    case h_2 => simp [stuckP] at h
    rename_i s hx
    split at h
    case h_2 => simp [stuckP] at h
    obtain ⟨hh, h, hhh⟩ := bndK_inv h
    obtain ⟨l, h, hl⟩ := bndK_inv h
    simp only [needP_iff] at h
    obtain ⟨⟨c1, c2, c3⟩, hk⟩ := h
    refine ⟨_, hk, fun nx H => .value fun oo n0 d0 F c a w ho he hw => ?_⟩
    obtain ⟨hr, _⟩ := he x (by simp [Op.operands])
    rw [hx] at hr
    have hb := bounds_run (P := P) (isS := false) (len := s.size) (cap := s.size) (m := s.size) (fun y hy => he y (hops y hy)) hl (hhh.imp (fun ⟨a, b⟩ => ⟨a, b, rfl⟩) id) (.inl ⟨rfl, rfl⟩) c1 c2 c3 (Int.le_refl _)
    refine ⟨rfl, .string (s.extract l.toNat hh.toNat), ?_, .str _⟩
    unfold execOp
    simp only [Option.map_none] at hb
    simp only [ho, Instr.sliceAt, Instr.slice, Rp.str_inv hr, Sem.run_bind, run_underlying hu, Result.andThen_ok, hb, Sem.run_pure, Option.map_none, Option.isSome_none, Bool.false_eq_true, if_false]
  · rename_i n e sz ht
    have hu := (hT t).und
    rw [ht] at hu
    obtain ⟨hun, i, hi', hsi⟩ := hu
    split at h
    case h_2 => simp [stuckP] at h
    rename_i b o hx
    split at h
    case h_2 => simp [stuckP] at h
    split at h
    case h_2 => simp [stuckP] at h
    split at h
    case h_2 => simp [stuckP] at h
    refine ⟨_, h, fun nx H => .value fun oo n0 d0 F c a w ho he hw => ?_⟩
    obtain ⟨hr, hu⟩ := he x (by simp [Op.operands])
    rw [hx] at hr hu
    have hr : a.eval x = .pointer (some ⟨c.ρ b, o, none⟩) := hr
    refine ⟨by simpa [D.under] using hu, .slice (some ⟨c.ρ b, o, none⟩) n n, ?_, ⟨o, rfl, fun _ => rfl, Nat.le_refl _⟩⟩
    have hb := bounds_run (P := P) (A := A) (a := a) (c := c) (w := w) (nx := nx) (lo := none) (hi := none) (mx := none) (l := 0) (h := n) (m := n) (isS := false) (len := n) (cap := n) (by simp) (.inl ⟨rfl, rfl⟩) (.inl ⟨rfl, rfl, rfl⟩) (.inl ⟨rfl, rfl⟩) (by omega) (by omega) (by omega) (by omega)
    simp only [Option.map_none, Int.toNat_natCast, Int.toNat_zero] at hb
    unfold execOp
    have hsa : (Instr.sureAddr (.pointer (some ⟨c.ρ b, o, none⟩))).run P w = .ok ⟨c.ρ b, o, none⟩ w := by
      simp [Instr.sureAddr, asAddr]
    simp only [ho, Instr.sliceAt, hr, hsa, Sem.run_bind, run_underlying hun, Result.andThen_ok, hb, Go.sizeOf, info_run hi', Sem.run_pure, Option.map_none, hsi]
    by_cases hn : n = 0
    · simp [hn]
    · simp [hn, add_none]
end Qa

namespace Qa
open Go

-- makeSlice
def makeK (T : Ty) (t : TypeId) (len cap : D) (H : Heap) (nx : Nat) (K : D → Heap → Nat → Fp → Prop) : Prop :=
  match (T t).d with
  | .slice e sz by_ => match (T e).good with
    | true => match Nat.beq sz 1 && Nat.blt 0 by_ with
      | true => match (T e).zero with
        | [z] => match z.one with
          | true => match len with
            | .p (.int _ l) => match cap with
              | .p (.int _ c) => needP (0 ≤ l ∧ l ≤ c ∧ (by_ : Int) * c ≤ 140737488355328) (K (.ms nx sz 0 l.toNat c.toNat) (hset H nx (.cells e (List.replicate c.toNat z))) (nx + 1) ⟨[], [nx]⟩)
              | _ => stuckP "make"
            | _ => stuckP "make"
          | false => stuckP "make"
        | _ => stuckP "make: zero"
      | false => stuckP "make: elements of several cells"
    | false => stuckP "make"
  | _ => stuckP "make"

theorem RdL_replicate {c w} {d : D} {v : Value} (h : Rd c w d v) : ∀ n, RdL c w (List.replicate n d) (List.replicate n v)
  | 0 => trivial
  | n + 1 => ⟨h, RdL_replicate h n⟩
theorem underL_replicate {m : Ids} {d : D} (h : d.under m = true) : ∀ n, underL m (List.replicate n d) = true
  | 0 => rfl
  | n + 1 => by simp [List.replicate_succ, underL, h, underL_replicate h n]

theorem vEq_under {d : D} {v : Value} (h : vEq d v = true) (n : Ids) : d.under n = true := by
  unfold vEq at h
  split at h <;> first | rfl | (simp at h)

theorem makeK_sound {P : Program} {T : Ty} (hT : TyOk P T) {t : TypeId} {x y : Operand} {A : Tmps} {H : Heap} {nb : Nat} {K : D → Heap → Nat → Fp → Prop} (h : makeK T t (ev A x) (ev A y) H nb K) :
    ∃ d blk fp, K d (hset H nb blk) (nb + 1) fp ∧ fp = ⟨[], [nb]⟩ ∧ ∀ (H : Heap) (nx : Ids), nx nb = false → OpOut P (.makeSlice t x y) A H nx d (hset H nb blk) (iadd nx nb) := by
  unfold makeK at h
  split at h
  case h_2 => simp [stuckP] at h
  rename_i e sz by_ ht
  split at h
  case h_2 => simp [stuckP] at h
  rename_i hg
  split at h
  case h_2 => simp [stuckP] at h
  rename_i hs1
  simp only [Bool.and_eq_true] at hs1
  obtain ⟨hs1, hby⟩ := hs1
  have hby : 0 < by_ := by simpa using hby
  have hs1 := Nat.eq_of_beq_eq_true hs1
  split at h
  case h_2 => simp [stuckP] at h
  rename_i z hz
  split at h
  case h_2 => simp [stuckP] at h
  rename_i hzo
  split at h
  case h_2 => simp [stuckP] at h
  rename_i kl l hx
  split at h
  case h_2 => simp [stuckP] at h
  rename_i kc cc hy
  simp only [needP_iff] at h
  obtain ⟨⟨c1, c2, c3⟩, hk⟩ := h
  have hu := (hT t).und
  rw [ht] at hu
  obtain ⟨hun, i, zv, hi, hsi, hbi, hzv, hzs⟩ := hu
  obtain ⟨f, z', hf, hfs, hz', hvz, hzl⟩ := (hT e).info (TI.good_ne hg)
  rw [hi] at hf
  cases hf
  rw [hzv] at hz'
  cases hz'
  subst hs1
  have hzc : zv.cells = #[zv.cells[0]'(by omega)] := by
    apply Array.toList_inj.1
    have : zv.cells.toList.length = 1 := by simpa using hzs
    match hl : zv.cells.toList, this with
    | [u], _ => simp [hl, ← Array.getElem_toList]
  have hzv0 : vEq z (zv.cells[0]'(by omega)) = true := by
    rw [hz, hzc] at hvz
    simpa [vEqL] using hvz
  refine ⟨_, _, _, hk, rfl, fun H nx hnb => .run (iadd_le _ _) fun oo n0 d0 F c a w ho he hw => ⟨by simp [D.under, iadd_self], ?_⟩⟩
  obtain ⟨hrx, _⟩ := he x (by simp [Op.operands])
  obtain ⟨hry, _⟩ := he y (by simp [Op.operands])
  rw [hx] at hrx
  rw [hy] at hry
  have hcc : cc ≤ 140737488355328 := by
    have : (1 : Int) ≤ by_ := by omega
    calc cc = 1 * cc := by omega
      _ ≤ by_ * cc := Int.mul_le_mul_of_nonneg_right this (by omega)
      _ ≤ _ := c3
  have hrun := run_make (P := P) w t e i zv hun hi hzv kl kc l cc c1 c2 (by rw [hbi]; omega) (by omega)
  have hcells : madeCells zv.cells (cc.toNat * i.size) = (List.replicate cc.toNat (zv.cells[0]'(by omega))).toArray := by
    apply Array.toList_inj.1
    apply List.ext_getElem?
    intro j
    simp only [madeCells, hsi, Nat.mul_one, Array.getElem?_toList, Array.getElem?_map, List.getElem?_toArray, List.getElem?_replicate]
    by_cases hj : j < cc.toNat
    · have h0 : j % zv.cells.size = 0 := by rw [hzs]; omega
      have hj2 : (Array.range cc.toNat)[j]? = some j := by simp [hj]
      rw [hj2, if_pos hj]
      simp only [Option.map_some, h0]
      congr 1
      exact getElem!_pos zv.cells 0 (by omega)
    · simp [hj]
  rw [hcells] at hrun
  obtain ⟨hrz, hoz⟩ := vEq_rd c w hzv0
  obtain ⟨hw', hs, hla⟩ := hw.alloc nb hnb e (List.replicate cc.toNat z) (List.replicate cc.toNat (zv.cells[0]'(by omega))) (RdL_replicate hrz _) (fun v hv => by rw [(List.mem_replicate.1 hv).2]; exact hoz)
    (underL_replicate (vEq_under hzv0 nx) _)
  refine ⟨_, _, .inl ?_, _, ⟨0, rfl, fun _ => rfl, by omega⟩, hw', hs, hla⟩
  unfold execOp
  simp only [ho, Rp.int_inv hrx, Rp.int_inv hry, Sem.run_bind, hrun, Result.andThen_ok, Sem.run_pure]
  simp [Cx.bind]

end Qa

namespace Qa
open Go

def appK (T : Ty) (t t2 : TypeId) (s x : D) (H : Heap) (nx : Nat) (K : D → Heap → Nat → Fp → Prop) : Prop :=
  match Nat.beq t t2 with
  | false => stuckP "append: types"
  | true => match (T t).d with
    | .slice e sz by_ => match Nat.blt 0 sz && Nat.blt 0 by_ with
      | false => stuckP "append: size"
      | true => match x.list? with
        | none => stuckP "append: no list"
        | some ys => match s with
          | .acc b xs => match H b with
            | some (.tok e' sz' n) => match Nat.beq e e' && Nat.beq sz sz' with
              | true => needP (n = xs.length ∧ (∀ z ∈ xs ++ ys, z.cells.length = sz) ∧ (xs.length + ys.length) * by_ ≤ 140737488355328)
                  (K (.acc b (xs ++ ys)) (hset H b (.tok e sz (xs ++ ys).length)) nx ⟨[], [b]⟩)
              | false => stuckP "append: token"
            | _ => stuckP "append: no token"
          | .nilsl => needP (ys ≠ [] ∧ (∀ z ∈ ys, z.cells.length = sz) ∧ ys.length * by_ ≤ 140737488355328)
              (K (.acc nx ys) (hset H nx (.tok e sz ys.length)) (nx + 1) ⟨[], [nx]⟩)
          | .full xs => needP ((∀ z ∈ xs ++ ys, z.cells.length = sz) ∧ (xs.length + ys.length) * by_ ≤ 140737488355328)
              (K (.p (.list (xs ++ ys))) H nx fp0)
          | _ => stuckP "append"
    | _ => stuckP "append: type"

theorem execOp_append {P : Program} {o : Oper} {a : Act} {s x : Operand} {t : TypeId} {v r : Value} {w w' : World} (ho : o.op = .call { callee := .builtin .append, args := #[s, x], argTypes := #[t, t] })
    (hr : ∀ ty, (Builtin.append_ #[t, t] ty #[a.eval s, a.eval x]).run P w = .ok r w') (_ : v = a.eval s) : (execOp a.eval o).run P w = .ok (.value r) w' :=
  builtin_run ho fun cs => by simp [builtin, hr]

theorem WRel.heapEq {n0 d0 H nx c F w} (h : WRel n0 d0 H nx c F w) {w' : World} (hh : w'.heap = w.heap) (hio : SameIO w w' := by exact ⟨rfl, rfl, rfl, by first | exact Nat.le_refl _ | exact Nat.le_succ _⟩) : WRel n0 d0 H nx c F w' ∧ (∀ n, Step n c w c w') ∧ Later n0 d0 F c w c w' := by
  have hs : ∀ n, Step n c w c w' := fun n => ⟨fun g o hk => ⟨hk, fun u hu => by rw [World.cell?_of_block (w := w) (by rw [hh])]; exact hu⟩, fun _ _ => rfl, fun _ _ => tgrow.refl _⟩
  refine ⟨⟨fun b k hb => ?_, h.inj, h.bh, h.dm, h.n0, fun g o hk => by rw [hh]; exact h.kb g o hk, fun g hg => by rw [hh]; exact h.fb g hg⟩, hs,
    hs _, fun g _ => by rw [hh], fun g o hk => .inl hk, by rw [hh]; exact Nat.le_refl _, fun _ _ _ => rfl, hio⟩
  obtain ⟨hlt, hun⟩ := h.bh b k hb
  exact (h.blk b k hb).mono (hs nx) hlt hun (fun g _ => by rw [hh]) (fun _ _ _ hk => hk) rfl

theorem appK_sound {P : Program} {T : Ty} (hT : TyOk P T) {t t2 : TypeId} {s x : Operand} {A : Tmps} {H : Heap} {nb : Nat} {K : D → Heap → Nat → Fp → Prop} (h : appK T t t2 (ev A s) (ev A x) H nb K) :
    ∃ d W nx' fp, K d (match W with | some (b, k) => hset H b k | none => H) nx' fp ∧ (∀ b k, W = some (b, k) → b ∈ fp.w) ∧ nb ≤ nx' ∧ ∀ (H2 : Heap) (nx : Ids), (∀ b ∈ fp.r ++ fp.w, H2 b = H b) → (∀ b, nb ≤ b → b < nx' → nx b = false) →
      OpOut P (.call { callee := .builtin .append, args := #[s, x], argTypes := #[t, t2] }) A H2 nx d (match W with | some (b, k) => hset H2 b k | none => H2) (iups nx nb nx') := by
  unfold appK at h
  split at h
  · simp [stuckP] at h
  rename_i htt
  have htt := Nat.eq_of_beq_eq_true htt
  subst htt
  split at h
  case h_2 => simp [stuckP] at h
  rename_i e sz by_ ht
  split at h
  · simp [stuckP] at h
  rename_i hpos
  simp only [Bool.and_eq_true] at hpos
  have h0 : 0 < sz := by simpa using hpos.1
  have hb0 : 0 < by_ := by simpa using hpos.2
  split at h
  · simp [stuckP] at h
  rename_i ys hys
  have mem1 : s ∈ (Op.call { callee := .builtin .append, args := #[s, x], argTypes := #[t, t] }).operands := by simp [Op.operands, Call.operands]
  have mem2 : x ∈ (Op.call { callee := .builtin .append, args := #[s, x], argTypes := #[t, t] }).operands := by simp [Op.operands, Call.operands]
  split at h
  · rename_i b xs hs
    split at h
    case h_2 => simp [stuckP] at h
    rename_i e' sz' n hb
    split at h
    case h_2 => simp [stuckP] at h
    rename_i hee
    simp only [Bool.and_eq_true] at hee
    have e1 := Nat.eq_of_beq_eq_true hee.1
    have e2 := Nat.eq_of_beq_eq_true hee.2
    subst e1
    subst e2
    simp only [needP_iff] at h
    obtain ⟨⟨hn, hsz, hby⟩, hk⟩ := h
    subst hn
    refine ⟨_, some (b, _), nb, ⟨[], [b]⟩, hk, fun b' k' e => by cases e; simp, Nat.le_refl _, fun H2 nx hH2 _ => by
    rw [iups_same]
    refine OpOut.run (Ids.le.refl _) fun oo n0 d0 F c a w ho he hw => ?_
    have hH2 : H2 b = some (.tok e sz xs.length) := (hH2 b (by simp)).trans hb
    obtain ⟨hrs, hus⟩ := he s mem1
    obtain ⟨hrx, _⟩ := he x mem2
    rw [hs] at hrs hus
    obtain ⟨p, hp1, hp2⟩ := hw.blk b _ hH2
    have hv := (hrs.2 _ _ hp1).2 rfl
    obtain ⟨v', w', c', hr, hd, hw', hst, hla⟩ := app_acc hT ht h0 hb0 hw (b := b) (nx' := nx) (list?_rp hys hrx) hrs.1 hsz hby (.inl ⟨hH2, ⟨p, hp1, hv⟩, rfl⟩)
    exact ⟨by simpa [D.under] using hus, v', w', .inl (execOp_append ho hr rfl), c', hd, hw', hst, hla⟩⟩
  · rename_i hs
    simp only [needP_iff] at h
    obtain ⟨⟨hne, hsz, hby⟩, hk⟩ := h
    refine ⟨_, some (nb, _), _, ⟨[], [nb]⟩, hk, fun b' k' e => by cases e; simp, Nat.le_succ _, fun H2 nx hH2 hfr => by
    rw [iups_succ]
    have hnb := hfr nb (Nat.le_refl _) (Nat.lt_succ_self _)
    refine OpOut.run (iadd_le _ _) fun oo n0 d0 F c a w ho he hw => ?_
    obtain ⟨hrs, hus⟩ := he s mem1
    obtain ⟨hrx, _⟩ := he x mem2
    rw [hs] at hrs
    have hrs : a.eval s = .slice none 0 0 := hrs
    obtain ⟨v', w', c', hr, hd, hw', hst, hla⟩ := app_acc hT ht h0 hb0 hw (b := nb) (xs := []) (nx' := iadd nx nb) (list?_rp hys hrx) (v := a.eval s) (by rw [hrs]; exact .nil) (by simpa using hsz) (by simpa using hby)
      (.inr ⟨hnb, hrs, rfl, hne, rfl⟩)
    exact ⟨by simp [D.under, iadd_self], v', w', .inl (execOp_append ho hr rfl), c', by simpa using hd, by simpa using hw', hst, hla⟩⟩
  · rename_i xs hs
    simp only [needP_iff] at h
    obtain ⟨⟨hsz, hby⟩, hk⟩ := h
    refine ⟨_, none, nb, fp0, hk, (fun b' k' e => by cases e), Nat.le_refl _, fun H2 nx hH2 _ => ?_⟩
    rw [iups_same]
    refine OpOut.run (Ids.le.refl _) fun oo n0 d0 F c a w ho he hw => ⟨rfl, ?_⟩
    obtain ⟨hrs, _⟩ := he s mem1
    obtain ⟨hrx, _⟩ := he x mem2
    rw [hs] at hrs
    obtain ⟨hrs, ad, hv⟩ := hrs
    have hrx := list?_rp hys hrx
    have hu := (hT t).und
    rw [ht] at hu
    obtain ⟨hun, i, z, hi, hsi, hbi, hz, hzs⟩ := hu
    have hml : xs.length + ys.length ≤ 140737488355328 := Nat.le_trans (Nat.le_mul_of_pos_right _ hb0) hby
    have hmax : xs.length + ys.length ≤ maxLen := by unfold maxLen; omega
    by_cases hy : ys = []
    · subst hy
      have hxl : ∃ q c', a.eval x = .slice q 0 c' := by
        generalize a.eval x = xv at hrx
        generalize hys0 : ([] : List Pd) = ys0 at hrx
        cases hrx with
        | nil => exact ⟨none, 0, rfl⟩
        | nila a => exact ⟨some a, 0, rfl⟩
        | list g o cap => subst hys0; exact ⟨_, cap, rfl⟩
      obtain ⟨q, cx, hxv⟩ := hxl
      refine ⟨a.eval s, w, .inl (execOp_append ho (fun ty => ?_) rfl), c, by rw [List.append_nil]; exact hrs, hw, Step.refl _ _ _, Later.refl _ _ _ _ _⟩
      rw [hv, hxv]
      exact run_append_zero hun hi ad q xs.length xs.length cx (Nat.le_refl _) ty w
    have hpos : 0 < ys.length := List.length_pos_iff.2 hy
    rcases hrx.cellsOf (fun y hy => hsz y (by simp [hy])) h0 with ⟨_, h⟩ | ⟨gx, ox, capx, us, hxv, hul, _, huc, hur⟩
    · exact absurd h hy
    have hul' : us.length = ys.length * i.size := by rw [hsi]; exact hul
    have hnews : ∀ j u, us[j]? = some u → w.cell? ((⟨gx, ox, none⟩ : Addr).add j) = some u := fun j u hj => by rw [add_none]; exact (huc j u hj).2.1
    -- the row that comes out
    have fresh : ∀ (xc rest : List Value) (cap : Nat), xc.length = xs.length * sz → xs.length + ys.length ≤ cap →
        (∀ (t : Nat) (u : Value), xc[t]? = some u → u.oneCell' = true) →
        (∀ (i : Nat) (y : Pd) (j : Nat) (q : Pd), xs[i]? = some y → y.cells[j]? = some q → ∃ u, xc[i * sz + j]? = some u ∧ Rp c.K w q u) →
        ∃ c', Rd c' (w.alloc (.cells (xc ++ us ++ rest).toArray e)) (.p (.list (xs ++ ys))) (.slice (some ⟨w.heap.size, 0, none⟩) (xs.length + ys.length) cap) ∧ WRel n0 d0 H2 nx c' F (w.alloc (.cells (xc ++ us ++ rest).toArray e)) ∧
          Step nx c w c' (w.alloc (.cells (xc ++ us ++ rest).toArray e)) ∧ Later n0 d0 F c w c' (w.alloc (.cells (xc ++ us ++ rest).toArray e)) := by
      intro xc rest cap hxl hcap h1 hxr
      obtain ⟨a1, a2, a3⟩ := hw.keep (xc ++ us ++ rest).toArray e
      refine ⟨_, ?_, a1, a2, a3⟩
      rw [← List.length_append]
      refine Rp.mkList (us := xc ++ us) (by simpa using hcap) hsz (fun t u hu => ⟨.inr rfl, ?_, ?_⟩) fun i y j q hiy hjq => ?_
      · rw [cell_of_row _ _ t _ _ _ (heap_alloc_new w _)]
        have hlt := (List.getElem?_eq_some_iff.1 hu).1
        simp only [List.getElem?_toArray]
        rw [List.getElem?_append_left hlt]; exact hu
      · by_cases ht : t < xc.length
        · rw [List.getElem?_append_left ht] at hu; exact h1 t u hu
        · rw [List.getElem?_append_right (Nat.le_of_not_lt ht)] at hu; exact (huc _ u hu).2.2
      · by_cases hi : i < xs.length
        · rw [List.getElem?_append_left hi] at hiy
          obtain ⟨u, hu, hr⟩ := hxr i y j q hiy hjq
          exact ⟨u, by rw [List.getElem?_append_left (List.getElem?_eq_some_iff.1 hu).1]; exact hu, hr.mono a2.k⟩
        · rw [List.getElem?_append_right (Nat.le_of_not_lt hi)] at hiy
          obtain ⟨u, hu, hr⟩ := hur _ y j q hiy hjq
          refine ⟨u, ?_, hr.mono a2.k⟩
          have hge : xc.length ≤ i * sz + j := by rw [hxl]; exact Nat.le_trans (Nat.mul_le_mul_right sz (Nat.le_of_not_lt hi)) (Nat.le_add_right _ _)
          rw [List.getElem?_append_right hge, hxl]
          rw [show i * sz + j - xs.length * sz = (i - xs.length) * sz + j by rw [Nat.sub_mul]; have := Nat.mul_le_mul_right sz (Nat.le_of_not_lt hi); omega]
          exact hu
    obtain ⟨xc, cap0, rest, cap, hxl, hcap, h1, hxr, hrun⟩ : ∃ (xc : List Value) (cap0 : Nat) (rest : List Value) (cap : Nat), xc.length = xs.length * sz ∧ xs.length + ys.length ≤ cap ∧
        (∀ (t : Nat) (u : Value), xc[t]? = some u → u.oneCell' = true) ∧
        (∀ (i : Nat) (y : Pd) (j : Nat) (q : Pd), xs[i]? = some y → y.cells[j]? = some q → ∃ u, xc[i * sz + j]? = some u ∧ Rp c.K w q u) ∧
        (∀ ty, (Builtin.append_ #[t, t] ty #[a.eval s, a.eval x]).run P w = .ok (.slice (some ⟨w.heap.size, 0, none⟩) (xs.length + ys.length) cap) (w.drew.alloc (.cells (xc ++ us ++ rest).toArray e))) := by
      rcases hrs.cellsOf (fun y hy => hsz y (by simp [hy])) h0 with ⟨⟨ab, hsv⟩, hxn⟩ | ⟨gs, os, caps, xc, hsv, hxl, _, hxc, hxr⟩
      · subst hxn
        refine ⟨[], 0, (Builtin.zeroCells z.cells (grownCap w ys.length 0 e - ys.length)).toList, grownCap w ys.length 0 e, by simp, by simpa using grownCap_ge w ys.length 0 e, by simp, by simp, fun ty => ?_⟩
        rw [hsv, hxv]
        have hr := run_append_nila (P := P) w t ty e i z hun hi hz ab ⟨gx, ox, none⟩ ys.length capx us hul' hnews hpos (by omega) (by rw [hbi]; simp at hby; omega)
        rw [hr]
        have e1 : us.toArray ++ Builtin.zeroCells z.cells (grownCap w ys.length 0 e - ys.length) = ([] ++ us ++ (Builtin.zeroCells z.cells (grownCap w ys.length 0 e - ys.length)).toList).toArray := by
          apply Array.toList_inj.1; simp
        rw [e1]; simp
      · rw [hsv] at hv
        cases hv
        refine ⟨xc, xs.length, (Builtin.zeroCells z.cells (grownCap w (xs.length + ys.length) xs.length e - (xs.length + ys.length))).toList, grownCap w (xs.length + ys.length) xs.length e, hxl, grownCap_ge _ _ _ _,
          fun t u hu => (hxc t u hu).2.2, hxr, fun ty => ?_⟩
        rw [hsv, hxv]
        have hr := run_append_grow (P := P) w t ty e i z hun hi hz ⟨gs, os, none⟩ xs.length xs.length xc (by rw [hsi]; exact hxl) (fun j u hj => by rw [add_none]; exact (hxc j u hj).2.1) ⟨gx, ox, none⟩ ys.length capx us hul' hnews
          (by omega) (by omega) (growslice_fits (by omega) (by rw [hbi]; exact hby))
        rw [hr]
        have e1 : xc.toArray ++ us.toArray ++ Builtin.zeroCells z.cells (grownCap w (xs.length + ys.length) xs.length e - (xs.length + ys.length)) =
            (xc ++ us ++ (Builtin.zeroCells z.cells (grownCap w (xs.length + ys.length) xs.length e - (xs.length + ys.length))).toList).toArray := by
          apply Array.toList_inj.1; simp
        rw [e1]
    obtain ⟨c', k1, k2, k3, k4⟩ := fresh xc rest cap hxl hcap h1 hxr
    obtain ⟨m1, m2, m3⟩ := k2.heapEq (w' := w.drew.alloc (.cells (xc ++ us ++ rest).toArray e)) rfl
    exact ⟨_, _, .inl (execOp_append ho hrun rfl), c', Rd.mono (m2 nx) _ _ rfl k1, m1, k3.trans (m2 nx), k4.trans m3⟩
  · simp [stuckP] at h

end Qa

namespace Qa
open Go

-- indexing a value
def idxK (T : Ty) (t : TypeId) (x i : D) (K : D → Prop) : Prop :=
  match i with
  | .p (.int _ n) => match (T t).d with
    | .str => match x with
      | .p (.str s) => needP (0 ≤ n ∧ n < s.size) (K (.p (.int .u8 ((s.data.toList.getD n.toNat 0).toNat : Int))))
      | _ => stuckP "index"
    | .arr len e sz => match Nat.beq sz 1 && (T e).good && !(T e).isAgg with
      | true => match x with
        | .p (.agg cs) => needP (n < len) (getP cs n 1 fun x => K (.p x))
        | _ => stuckP "index"
      | false => stuckP "index"
    | _ => stuckP "index"
  | _ => stuckP "index"

theorem isAgg_of {P : Program} {T : Ty} (hT : TyOk P T) {t : TypeId} (h1 : (T t).good = true) (h2 : (T t).isAgg = false) : ∃ d, P.underlying t = some d ∧ aggDesc d = false := by
  have hu := (hT t).und
  cases hd : (T t).d with
  | struct fs => simp [TI.isAgg, hd] at h2
  | arr n e s => simp [TI.isAgg, hd] at h2
  | bad => simp [TI.good, hd] at h1
  | int k => rw [hd] at hu; exact ⟨_, hu, rfl⟩
  | bool => rw [hd] at hu; exact ⟨_, hu, rfl⟩
  | map k e => rw [hd] at hu; exact ⟨_, hu, rfl⟩
  | str => rw [hd] at hu; exact ⟨_, hu, rfl⟩
  | slice e s b => rw [hd] at hu; exact ⟨_, hu.1, rfl⟩
  | ptr => rw [hd] at hu; obtain ⟨e, he⟩ := hu; exact ⟨_, he, rfl⟩
  | func => rw [hd] at hu; obtain ⟨a, b, v, he⟩ := hu; exact ⟨_, he, rfl⟩
  | other =>
    rw [hd] at hu
    obtain ⟨d, he, hs, ha⟩ := hu
    refine ⟨d, he, ?_⟩
    cases d <;> first | rfl | exact absurd rfl (hs _) | exact absurd rfl (ha _ _)

theorem idxK_sound {P : Program} {T : Ty} (hT : TyOk P T) {t : TypeId} {x y : Operand} {A : Tmps} {K : D → Prop} (h : idxK T t (ev A x) (ev A y) K) :
    ∃ d, K d ∧ ∀ (nx : Ids) (H : Heap), OpOut P (.index t x y) A H nx d H nx := by
  unfold idxK at h
  split at h
  case h_2 => simp [stuckP] at h
  rename_i k n hy
  split at h
  case h_3 => simp [stuckP] at h
  · rename_i ht
    have hu := (hT t).und
    rw [ht] at hu
    split at h
    case h_2 => simp [stuckP] at h
    rename_i s hx
    simp only [needP_iff] at h
    obtain ⟨⟨c1, c2⟩, hk⟩ := h
    refine ⟨_, hk, fun nx H => .value fun oo n0 d0 F c a w ho he hw => ?_⟩
    obtain ⟨hrx, _⟩ := he x (by simp [Op.operands])
    obtain ⟨hry, _⟩ := he y (by simp [Op.operands])
    rw [hx] at hrx
    rw [hy] at hry
    have hlt : n.toNat < s.size := by omega
    refine ⟨rfl, .int .u8 ((s.data.toList.getD n.toNat 0).toNat : Int), ?_, .int _ _⟩
    have hg : s[n.toNat]? = some (s.data.toList.getD n.toNat 0) := by
      rw [getElem?_pos s n.toNat hlt, List.getD_eq_getElem?_getD, Array.getElem?_toList, Array.getElem?_eq_getElem (show n.toNat < s.data.size from hlt)]
      rfl
    unfold execOp
    simp only [ho, Instr.index, Rp.str_inv hrx, Rp.int_inv hry, asIntOf, Sem.run_bind, run_underlying hu, Sem.run_pure, Result.andThen_ok, c1, if_true, hg]
  · rename_i len e sz ht
    have hu := (hT t).und
    rw [ht] at hu
    obtain ⟨hun, i, hi, hsi⟩ := hu
    split at h
    case h_2 => simp [stuckP] at h
    rename_i hc
    simp only [Bool.and_eq_true, Bool.not_eq_true'] at hc
    obtain ⟨⟨hsz, hg⟩, hag⟩ := hc
    have hsz := Nat.eq_of_beq_eq_true hsz
    subst hsz
    obtain ⟨de, hde, hda⟩ := isAgg_of hT hg hag
    split at h
    case h_2 => simp [stuckP] at h
    rename_i cs hx
    simp only [needP_iff, getP_iff] at h
    obtain ⟨hlt, h0, p, hp, _, hk⟩ := h
    refine ⟨_, hk, fun nx H => .value fun oo n0 d0 F c a w ho he hw => ?_⟩
    obtain ⟨hrx, _⟩ := he x (by simp [Op.operands])
    obtain ⟨hry, _⟩ := he y (by simp [Op.operands])
    rw [hx] at hrx
    rw [hy] at hry
    generalize hxv : a.eval x = xv at hrx
    cases hrx with
    | agg _ vs hl h1 hr =>
      have hlv : n.toNat < vs.length := by rw [← hl]; exact (List.getElem?_eq_some_iff.1 hp).1
      refine ⟨rfl, vs[n.toNat], ?_, hr _ p _ hp (List.getElem?_eq_getElem hlv)⟩
      unfold execOp
      have hcond : 0 ≤ n ∧ n < (len : Int) := ⟨h0, hlt⟩
      simp only [ho, Instr.index, hxv, Rp.int_inv hry, asIntOf, Sem.run_bind, run_underlying hun, Sem.run_pure, Result.andThen_ok, hcond, and_self, if_true, Go.sizeOf, info_run hi, hsi, part, isAgg_run hde, hda, Bool.false_eq_true, if_false]
      simp [hlv]

-- min and max of two integers
def minmaxK (mx : Bool) (x y : D) (K : D → Prop) : Prop :=
  match x with
  | .p (.int k a) => match y with
    | .p (.int _ b) => match mx with
      | true => K (.p (.int k (max a b)))
      | false => K (.p (.int k (min a b)))
    | _ => stuckP "min, max"
  | _ => stuckP "min, max"

theorem minmaxK_sound {P : Program} {mx : Bool} {ts : Array TypeId} {x y : Operand} {A : Tmps} {K : D → Prop} (h : minmaxK mx (ev A x) (ev A y) K) :
    ∃ d, K d ∧ ∀ (nx : Ids) (H : Heap), OpOut P (.call { callee := .builtin (if mx then .max else .min), args := #[x, y], argTypes := ts }) A H nx d H nx := by
  unfold minmaxK at h
  split at h
  case h_2 => simp [stuckP] at h
  rename_i k a hx
  split at h
  case h_2 => simp [stuckP] at h
  rename_i k' b hy
  have key : ∀ (d : Int), (∀ (c : Cx) (ac : Act) (w : World) (ty : TypeId) (cs : Array Bool), (builtin (if mx then .max else .min) ts ty cs #[.int k a, .int k' b]).run P w = .ok (.value (.int k d)) w) →
      ∀ (nx : Ids) (H : Heap), OpOut P (.call { callee := .builtin (if mx then .max else .min), args := #[x, y], argTypes := ts }) A H nx (.p (.int k d)) H nx := by
    intro d hd nx H
    refine .value fun oo n0 d0 F c ac w ho he hw => ?_
    obtain ⟨hrx, _⟩ := he x (by simp [Op.operands, Call.operands])
    obtain ⟨hry, _⟩ := he y (by simp [Op.operands, Call.operands])
    rw [hx] at hrx
    rw [hy] at hry
    refine ⟨rfl, .int k d, builtin_run ho fun cs => ?_, .int _ _⟩
    simp only [List.map_toArray, List.map_cons, List.map_nil, Rp.int_inv hrx, Rp.int_inv hry]
    exact hd c ac w oo.type cs
  split at h
  · refine ⟨_, h, key _ fun c ac w ty cs => ?_⟩
    simp only [if_true, builtin, Builtin.max_, List.foldlM_cons, List.foldlM_nil, Builtin.max2, Sem.run_bind, Sem.run_pure, Result.andThen_ok]
    have : (if a < b then b else a) = max a b := by simp only [Int.max_def]; split <;> split <;> omega
    simp [this]
  · refine ⟨_, h, key _ fun c ac w ty cs => ?_⟩
    simp only [Bool.false_eq_true, if_false, builtin, Builtin.min_, List.foldlM_cons, List.foldlM_nil, Builtin.min2, Sem.run_bind, Sem.run_pure, Result.andThen_ok]
    have : (if b < a then b else a) = min a b := by simp only [Int.min_def]; split <;> split <;> omega
    simp [this]
end Qa

namespace Qa
open Go

/-- a block gets other content where it lies. -/
theorem WRel.row {n0 d0 H nx c F w} (h : WRel n0 d0 H nx c F w) {b g : Nat} {k k' : Blk} (hb : H b = some k) (hp : place c b k = some g) (hK : ∀ o, ¬ c.K g o) (w' : World)
    (hw2 : ∀ g', g' ≠ g → w'.heap[g']? = w.heap[g']?) (hw3 : w.heap.size ≤ w'.heap.size) (hk' : BlkRel c F w' b k') (hpl : place c b k' = some g) (hu : k'.under nx = true) (hio : SameIO w w' := by exact ⟨rfl, rfl, rfl, by first | exact Nat.le_refl _ | exact Nat.le_succ _⟩) :
    WRel n0 d0 (hset H b k') nx c F w' ∧ Step nx c w c w' ∧ Later n0 d0 F c w c w' := by
  have hnF : ¬ F g := ((h.blk b k hb).place_lt hp).2
  have hk : KStep c.K w c.K w' := fun g' o hk => ⟨hk, fun u hu => by
    have hne : g' ≠ g := fun e => hK o (e ▸ hk)
    rw [World.cell?_of_block (w := w) (hw2 g' hne)]; exact hu⟩
  have hs : Step nx c w c w' := ⟨hk, fun _ _ => rfl, fun _ _ => tgrow.refl _⟩
  refine ⟨⟨fun x kx hx => ?_, fun x x' kx kx' gx hx hx' hpx hpx' => ?_, fun x kx hx => ?_, fun x kx hx hlt => ?_, h.n0, fun g' o hk => Nat.lt_of_lt_of_le (h.kb g' o hk) hw3, fun g' hg => Nat.lt_of_lt_of_le (h.fb g' hg) hw3⟩,
    hs, hs.le h.le0, fun g' hg => hw2 g' (fun e => hnF (e ▸ hg)), fun _ _ hk => .inl hk, hw3, fun _ _ _ => rfl, hio⟩
  · rcases hset_some hx with ⟨rfl, rfl⟩ | ⟨hne, hx⟩
    · exact hk'
    · obtain ⟨hlt, hun⟩ := h.bh x kx hx
      refine (h.blk x kx hx).mono hs hlt hun (fun g' hp' => hw2 g' fun e => ?_) (fun _ _ _ hk => hk) rfl
      subst e
      exact hne (h.inj x b kx k g' hx hb hp' hp)
  · rcases hset_some hx with ⟨rfl, rfl⟩ | ⟨hne, hx0⟩ <;> rcases hset_some hx' with ⟨rfl, rfl⟩ | ⟨hne', hx0'⟩
    · rfl
    · rw [hpl] at hpx; cases hpx
      exact h.inj _ _ _ _ _ hb hx0' hp hpx'
    · rw [hpl] at hpx'; cases hpx'
      exact h.inj _ _ _ _ _ hx0 hb hpx hp
    · exact h.inj x x' kx kx' gx hx0 hx0' hpx hpx'
  · rcases hset_some hx with ⟨rfl, rfl⟩ | ⟨hne, hx⟩
    · exact ⟨(h.bh _ _ hb).1, hu⟩
    · exact h.bh x kx hx
  · rcases hset_some hx with ⟨rfl, rfl⟩ | ⟨hne, hx⟩
    · exact h.dm _ _ hb hlt
    · exact h.dm x kx hx hlt

/-- the vector that a value is a part of. -/
theorem vec_at {n0 d0 H nx c F w} (hw : WRel n0 d0 H nx c F w) {b e sz ver lo n : Nat} {xs : List Pd} {v : Value} (hb : H b = some (.vec e sz ver xs)) (hv : Rd c w (.vec b ver sz lo n) v) (hn : 0 < n) :
    ∃ g cap o cur, c.τ b = some (ver, some (g, cap)) ∧ v = .slice (some ⟨g, o, none⟩) n (cap - lo) ∧ o = lo * sz ∧ lo + n ≤ cap ∧ w.heap[g]? = some (.cells cur e (0, 0)) ∧ VecRel c.K w sz xs cur ∧ cap ≤ maxLen ∧
      cur.size = cap * sz ∧ ¬ F g ∧ ∀ o, ¬ c.K g o := by
  obtain ⟨p, hp, hq⟩ := hw.blk b _ hb
  obtain ⟨_, hv⟩ := hv
  have hv := (hv _ _ hp).2 rfl
  cases p with
  | none => simp only [vecVal] at hv; omega
  | some q =>
    obtain ⟨g, cap⟩ := q
    obtain ⟨o, rfl, ho, hle⟩ := hv
    obtain ⟨cur, a1, a2, a3, a4, a5, a6⟩ := hq
    exact ⟨g, cap, o, cur, hp, rfl, ho (by omega), hle, a1, a2, a3, a4, a5, a6⟩

-- the address of an element
def indexV (T : Ty) (t : TypeId) (b ver sz lo n : Nat) (i : D) (H : Heap) (K : D → Fp → Prop) : Prop :=
  match i with
  | .p (.int _ k) => match (T t).d with
    | .slice _ sz' _ => match Nat.beq sz sz' with
      | true => match H b with
        | some (.vec _ sz2 v _) => match Nat.beq sz sz2 with
          | true => needP (v = ver ∧ 0 ≤ k ∧ k < n) (K (.vref b ver sz (lo + k.toNat)) ⟨[b], []⟩)
          | false => stuckP "indexV"
        | _ => stuckP "indexV"
      | false => stuckP "indexV"
    | _ => stuckP "indexV"
  | _ => stuckP "indexV"

theorem indexV_sound {P : Program} {T : Ty} (hT : TyOk P T) {t : TypeId} {x y : Operand} {b ver sz lo n : Nat} {A : Tmps} {H : Heap} {K : D → Fp → Prop} (hx : ev A x = .vec b ver sz lo n) (h : indexV T t b ver sz lo n (ev A y) H K) :
    ∃ d fp, K d fp ∧ ∀ (nx : Ids) (H2 : Heap), (∀ b ∈ fp.r ++ fp.w, H2 b = H b) → OpOut P (.indexAddr t x y) A H2 nx d H2 nx := by
  unfold indexV at h
  split at h
  case h_2 => simp [stuckP] at h
  rename_i kk k hy
  split at h
  case h_2 => simp [stuckP] at h
  rename_i e sz' by_ ht
  split at h
  case h_2 => simp [stuckP] at h
  rename_i hs1
  have hs1 := Nat.eq_of_beq_eq_true hs1
  subst hs1
  split at h
  case h_2 => simp [stuckP] at h
  rename_i e2 sz2 v xs hb
  split at h
  case h_2 => simp [stuckP] at h
  rename_i hs2
  have hs2 := Nat.eq_of_beq_eq_true hs2
  subst hs2
  simp only [needP_iff] at h
  obtain ⟨⟨rfl, h0, hlt⟩, hk⟩ := h
  have hu := (hT t).und
  rw [ht] at hu
  obtain ⟨hun, i, z, hi, hsz, _⟩ := hu
  refine ⟨_, _, hk, fun nx H2 hH2 => .value fun oo n0 d0 F c a w ho he hw => ?_⟩
  have hb2 : H2 b = some (.vec e2 sz v xs) := (hH2 b (by simp)).trans hb
  obtain ⟨hr, hu⟩ := he x (by simp [Op.operands])
  obtain ⟨hry, _⟩ := he y (by simp [Op.operands])
  rw [hx] at hr hu
  rw [hy] at hry
  obtain ⟨g, cap, o, cur, hτ, hxv, hoo, hle, _⟩ := vec_at hw hb2 hr (by omega)
  refine ⟨by simpa [D.under] using hu, .pointer (some ⟨g, o + k.toNat * sz, none⟩), ?_, ⟨_, rfl⟩, fun ver' p e => ?_⟩
  · unfold execOp
    have hc : 0 ≤ k ∧ k < (n : Int) := ⟨h0, hlt⟩
    simp only [ho, Instr.indexAt, hxv, Rp.int_inv hry, asIntOf, Sem.run_bind, run_underlying hun, Result.andThen_ok, Sem.run_pure, Go.sizeOf, info_run hi, hsz, add_none, hc, and_self, if_true]
  · rw [hτ] at e; cases e
    refine ⟨Nat.le_refl _, fun _ => ⟨g, cap, rfl, ?_⟩⟩
    rw [hoo, Nat.add_mul]

-- reading and writing an element
def loadV (T : Ty) (t : TypeId) (b ver sz i : Nat) (H : Heap) (K : D → Fp → Prop) : Prop :=
  match H b with
  | some (.vec _ sz2 v xs) => match Nat.beq sz sz2 with
    | true => needP (v = ver) (getP xs i sz fun x => loadCs (T t) (x.cells.map D.p) fun d => K d ⟨[b], []⟩)
    | false => stuckP "loadV"
  | _ => stuckP "loadV"

theorem underL_ps (n : Ids) : ∀ (xs : List Pd), underL n (xs.map D.p) = true
  | [] => by simp [underL]
  | x :: xs => by simp [underL, D.under, underL_ps n xs]

/-- an element of a vector: its cells. -/
theorem VecRel.elem {c : Cx} {w : World} {sz : Nat} {xs : List Pd} {cur : Array Value} (h : VecRel c.K w sz xs cur) {i : Nat} {x : Pd} (hx : xs[i]? = some x) :
    ∃ us : List Value, us = (cur.toList.drop (i * sz)).take sz ∧ us.length = sz ∧ RdL c w (x.cells.map D.p) us ∧ (∀ v ∈ us, v.oneCell' = true) ∧ ∀ (j : Nat) (v : Value), us[j]? = some v → cur[i * sz + j]? = some v := by
  have hlt := (List.getElem?_eq_some_iff.1 hx).1
  have hxs := h.s x (List.mem_of_getElem? hx)
  have hn := h.n
  have hle : (i + 1) * sz ≤ xs.length * sz := Nat.mul_le_mul_right _ hlt
  rw [Nat.add_mul, Nat.one_mul] at hle
  have hget : ∀ (j : Nat) (v : Value), ((cur.toList.drop (i * sz)).take sz)[j]? = some v → j < sz ∧ cur[i * sz + j]? = some v := fun j v hv => by
    rw [List.getElem?_take] at hv
    split at hv
    · rename_i hj
      rw [List.getElem?_drop] at hv
      exact ⟨hj, by simpa using hv⟩
    · cases hv
  refine ⟨_, rfl, by simp; omega, RdL_mk (by simp [hxs]; omega) fun j d v hd hv => ?_, fun v hv => ?_, fun j v hv => (hget j v hv).2⟩
  · simp only [List.getElem?_map, Option.map_eq_some_iff] at hd
    obtain ⟨q, hq, rfl⟩ := hd
    obtain ⟨u, hu, hr⟩ := h.r i x j q hx hq
    rw [(hget j v hv).2] at hu
    cases hu
    exact hr
  · obtain ⟨j, hj⟩ := List.getElem?_of_mem hv
    obtain ⟨h1, h2⟩ := hget j v hj
    exact h.one _ v (by omega) h2

theorem vref_at {n0 d0 H nx c F w} (hw : WRel n0 d0 H nx c F w) {b e sz ver i : Nat} {xs : List Pd} {v : Value} (hb : H b = some (.vec e sz ver xs)) (hv : Rd c w (.vref b ver sz i) v) :
    ∃ g cap cur, c.τ b = some (ver, some (g, cap)) ∧ v = .pointer (some ⟨g, i * sz, none⟩) ∧ w.heap[g]? = some (.cells cur e (0, 0)) ∧ VecRel c.K w sz xs cur ∧ cap ≤ maxLen ∧
      cur.size = cap * sz ∧ ¬ F g ∧ ∀ o, ¬ c.K g o := by
  obtain ⟨p, hp, hq⟩ := hw.blk b _ hb
  obtain ⟨_, hv⟩ := hv
  obtain ⟨g, cap, rfl, hvv⟩ := (hv _ _ hp).2 rfl
  obtain ⟨cur, a1, a2, a3, a4, a5, a6⟩ := hq
  exact ⟨g, cap, cur, hp, hvv, a1, a2, a3, a4, a5, a6⟩

theorem loadV_sound {P : Program} {T : Ty} (hT : TyOk P T) {t : TypeId} {x : Operand} {b ver sz i : Nat} {A : Tmps} {H : Heap} {K : D → Fp → Prop} (hx : ev A x = .vref b ver sz i) (h : loadV T t b ver sz i H K) :
    ∃ d fp, K d fp ∧ ∀ (nx : Ids) (H2 : Heap), (∀ b ∈ fp.r ++ fp.w, H2 b = H b) → OpOut P (.load t x) A H2 nx d H2 nx := by
  unfold loadV at h
  split at h
  case h_2 => simp [stuckP] at h
  rename_i e2 sz2 v xs hb
  split at h
  case h_2 => simp [stuckP] at h
  rename_i hs2
  have hs2 := Nat.eq_of_beq_eq_true hs2
  subst hs2
  simp only [needP_iff, getP_iff] at h
  obtain ⟨rfl, h0, y, hy, hyl, h⟩ := h
  obtain ⟨d, hk, hs⟩ := loadCs_sound hT h
  simp only [Int.toNat_natCast] at hy
  refine ⟨_, _, hk, fun nx H2 hH2 => .value fun oo n0 d0 F c a w ho he hw => ?_⟩
  have hb2 : H2 b = some (.vec e2 sz v xs) := (hH2 b (by simp)).trans hb
  obtain ⟨hr, hu⟩ := he x (by simp [Op.operands])
  rw [hx] at hr
  obtain ⟨g, cap, cur, hτ, hxv, hg, hvr, hcm, hcs, hnF, hnK⟩ := vref_at hw hb2 hr
  obtain ⟨us, _, hul, hrl, h1, hc⟩ := hvr.elem hy
  obtain ⟨hd, u, hl, hrd⟩ := hs nx c w g (i * sz) us (underL_ps nx _) hrl h1 fun j u hj => by
    rw [cell_of_row w g _ _ _ _ hg]; exact hc j u hj
  exact ⟨hd, u, execOp_load ho a P w _ _ u hxv hl, hrd⟩

def storeV (T : Ty) (t : TypeId) (b ver sz i : Nat) (y : D) (H : Heap) (K : Heap → Fp → Prop) : Prop :=
  match (T t).good with
  | true => match Nat.beq sz (T t).size with
    | true => match y with
      | .p q => match H b with
        | some (.vec e sz2 v xs) => match Nat.beq sz sz2 with
          | true => needP (v = ver ∧ i < xs.length ∧ q.cells.length = sz) (K (hset H b (.vec e sz v (xs.set i q))) ⟨[], [b]⟩)
          | false => stuckP "storeV"
        | _ => stuckP "storeV"
      | _ => stuckP "storeV: not pure"
    | false => stuckP "storeV"
  | false => stuckP "storeV"

theorem storeV_sound {P : Program} {T : Ty} (hT : TyOk P T) {t : TypeId} {x y : Operand} {b ver sz i : Nat} {A : Tmps} {H : Heap} {K : Heap → Fp → Prop} (hx : ev A x = .vref b ver sz i) (h : storeV T t b ver sz i (ev A y) H K) :
    ∃ b blk, K (hset H b blk) ⟨[], [b]⟩ ∧ ∀ (nx : Ids) (H2 : Heap), H2 b = H b → OpOut P (.store t x y) A H2 nx (.tup []) (hset H2 b blk) nx := by
  unfold storeV at h
  split at h
  case h_2 => simp [stuckP] at h
  rename_i hgood
  split at h
  case h_2 => simp [stuckP] at h
  rename_i hst
  have hst := Nat.eq_of_beq_eq_true hst
  split at h
  case h_2 => simp [stuckP] at h
  rename_i q hy
  split at h
  case h_2 => simp [stuckP] at h
  rename_i e2 sz2 v xs hb
  split at h
  case h_2 => simp [stuckP] at h
  rename_i hs2
  have hs2 := Nat.eq_of_beq_eq_true hs2
  subst hs2
  simp only [needP_iff] at h
  obtain ⟨⟨rfl, hlt, hql⟩, hk⟩ := h
  refine ⟨_, _, hk, fun nx H2 hH2 => .run (Ids.le.refl _) fun oo n0 d0 F c a w ho he hw => ⟨rfl, ?_⟩⟩
  have hb2 : H2 b = some (.vec e2 sz v xs) := hH2.trans hb
  obtain ⟨hr, _⟩ := he x (by simp [Op.operands])
  obtain ⟨hry, _⟩ := he y (by simp [Op.operands])
  rw [hx] at hr
  rw [hy] at hry
  obtain ⟨g, cap, cur, hτ, hxv, hg, hvr, hcm, hcs, hnF, hnK⟩ := vref_at hw hb2 hr
  obtain ⟨f, z, hf, hsz, _⟩ := (hT t).info (TI.good_ne hgood)
  have hcl : (a.eval y).cells.size = sz := (Rp.cells_len hry).trans hql
  obtain ⟨_, ho1⟩ := Pd.cells_rp (c := c) (x := q) hry
  have hn := hvr.n
  have hle : (i + 1) * sz ≤ xs.length * sz := Nat.mul_le_mul_right _ hlt
  rw [Nat.add_mul, Nat.one_mul] at hle
  have hrun0 := run_storeCells_at (P := P) g (i * sz) e2 (a.eval y).cells.toList 0 cur w hg (by simp; omega) ho1
  generalize hcur' : (cur.toList.take (i * sz) ++ (a.eval y).cells.toList ++ cur.toList.drop (i * sz + sz)).toArray = cur'
  have hrun : (execOp a.eval oo).run P w = .ok .skip (w.setRow g cur') := by
    unfold execOp
    simp only [ho, Instr.storeAt, Instr.sureAddr, storeVar, hxv, Sem.run_bind, Sem.run_pure, Result.andThen_ok, Go.sizeOf, info_run hf]
    have hne : ¬ (a.eval y).cells.size ≠ f.size := by omega
    rw [if_neg hne]
    simp only [Nat.add_zero] at hrun0
    rw [hrun0, ← hcur']
    simp [hcl]
  have hget : ∀ t, cur'[t]? = if t < i * sz then cur[t]? else if t < i * sz + sz then (a.eval y).cells[t - i * sz]? else cur[t]? := fun t => by
    subst hcur'
    simp only [List.getElem?_toArray, List.append_assoc]
    have hl1 : (cur.toList.take (i * sz)).length = i * sz := by simp; omega
    by_cases h1 : t < i * sz
    · rw [List.getElem?_append_left (by omega), if_pos h1, List.getElem?_take, if_pos h1]; simp
    · rw [List.getElem?_append_right (by omega), if_neg h1, hl1]
      by_cases h2 : t < i * sz + sz
      · rw [List.getElem?_append_left (by simp; omega), if_pos h2]; simp
      · rw [List.getElem?_append_right (by simp; omega), if_neg h2, List.getElem?_drop]
        simp only [Array.length_toList, hcl]
        rw [show i * sz + sz + (t - i * sz - sz) = t by omega]; simp
  have hsize : cur'.size = cur.size := by
    subst hcur'
    simp [hcl]
    omega
  have hks : KStep c.K w c.K (w.setRow g cur') := fun g' o hk => ⟨hk, fun u hu => by
    have hne : g' ≠ g := fun e => hnK o (e ▸ hk)
    rw [World.cell?_of_block (w := w) (setRow_other w _ _ _ hne)]; exact hu⟩
  have hvr' : VecRel c.K (w.setRow g cur') sz (xs.set i q) cur' := by
    refine ⟨fun x hx => ?_, by rw [List.length_set, hsize]; exact hn, fun t u ht hu => ?_, fun k x j p hkx hjp => ?_⟩
    · rcases List.mem_or_eq_of_mem_set hx with hx | rfl
      · exact hvr.s x hx
      · exact hql
    · rw [List.length_set] at ht
      rw [hget] at hu
      split at hu
      · exact hvr.one t u ht hu
      · split at hu
        · exact ho1 u (by have := Array.mem_of_getElem? hu; simpa using this)
        · exact hvr.one t u ht hu
    · by_cases hki : k = i
      · subst hki
        rw [List.getElem?_set_self hlt] at hkx
        cases hkx
        have hj : j < sz := by rw [← hql]; exact (List.getElem?_eq_some_iff.1 hjp).1
        obtain ⟨u, hu, _, hr⟩ := hry.cell_get hjp
        refine ⟨u, ?_, hr.mono hks⟩
        rw [hget, if_neg (by omega), if_pos (by omega), show k * sz + j - k * sz = j by omega]; exact hu
      · rw [List.getElem?_set_ne (Ne.symm hki)] at hkx
        obtain ⟨u, hu, hr⟩ := hvr.r k x j p hkx hjp
        refine ⟨u, ?_, hr.mono hks⟩
        have hj : j < sz := by rw [← hvr.s x (List.mem_of_getElem? hkx)]; exact (List.getElem?_eq_some_iff.1 hjp).1
        rw [hget]
        rcases Nat.lt_or_gt_of_ne hki with hlt' | hgt'
        · have : (k + 1) * sz ≤ i * sz := Nat.mul_le_mul_right _ hlt'
          rw [Nat.add_mul, Nat.one_mul] at this
          rw [if_pos (by omega)]; exact hu
        · have : (i + 1) * sz ≤ k * sz := Nat.mul_le_mul_right _ hgt'
          rw [Nat.add_mul, Nat.one_mul] at this
          rw [if_neg (by omega), if_neg (by omega)]; exact hu
  obtain ⟨hw', hs, hla⟩ := hw.row (k' := .vec e2 sz v (xs.set i q)) hb2 (g := g) (by simp [place, hτ]) hnK (w.setRow g cur') (fun g' hg' => setRow_other w _ _ _ hg') (by simp [World.setRow])
    ⟨_, hτ, cur', setRow_heap w g _ _ e2 _ hg, hvr', hcm, by rw [hsize]; exact hcs, hnF, hnK⟩ (by simp [place, hτ]) rfl
  exact ⟨undef, _, .inr ⟨hrun, rfl⟩, c, ⟨[], rfl, trivial⟩, hw', hs, hla⟩

end Qa

namespace Qa
open Go

def Cx.vt (c : Cx) (b ver g cap : Nat) : Cx := { c with τ := fun x => if x = b then some (ver, some (g, cap)) else c.τ x }

/-- a vector's content comes to lie in a row. -/
theorem vt_put {n0 : Nat} {d0 F : Nat → Prop} {H : Heap} {nx nx' : Ids} {c : Cx} {w : World} (hw : WRel n0 d0 H nx c F w) {b g cap ver e sz : Nat} {xs : List Pd} {cur : Array Value}
    (hb : (nx b = true ∧ (∃ m, m < ver ∧ (∃ e xs, H b = some (.vec e sz m xs)) ∧ ∃ p, c.τ b = some (m, p)) ∧ nx' = nx) ∨ (nx b = false ∧ nx' = iadd nx b))
    (hg : g = w.heap.size ∨ ∃ k, H b = some k ∧ place c b k = some g) (hF : ¬ F g) (hK : ∀ o, ¬ c.K g o) (w' : World) (h2 : ∀ g', g' ≠ g → w'.heap[g']? = w.heap[g']?) (h3 : w.heap.size ≤ w'.heap.size)
    (hcur : w'.heap[g]? = some (.cells cur e (0, 0))) (hv : VecRel c.K w' sz xs cur) (hcap : cap ≤ maxLen) (hsz : cur.size = cap * sz) (hio : SameIO w w' := by exact ⟨rfl, rfl, rfl, by first | exact Nat.le_refl _ | exact Nat.le_succ _⟩) :
    WRel n0 d0 (hset H b (.vec e sz ver xs)) nx' (c.vt b ver g cap) F w' ∧ Step nx c w (c.vt b ver g cap) w' ∧ Later n0 d0 F c w (c.vt b ver g cap) w' := by
  have hk : KStep c.K w (c.vt b ver g cap).K w' := fun g' o hk => ⟨hk, fun u hu => by
    have hne : g' ≠ g := fun e => hK o (e ▸ hk)
    rw [World.cell?_of_block (w := w) (h2 g' hne)]; exact hu⟩
  have hst : Step nx c w (c.vt b ver g cap) w' := ⟨hk, fun _ _ => rfl, fun x hx => by
    by_cases hxb : x = b
    · subst hxb
      rcases hb with ⟨_, ⟨m, hm, _, p, hp⟩, _⟩ | ⟨h1, _⟩
      · intro n' p' he
        simp [Cx.vt] at he
        obtain ⟨rfl, rfl⟩ := he
        exact ⟨m, p, hp, Nat.le_of_lt hm, fun e => absurd e (Nat.ne_of_lt hm)⟩
      · rw [h1] at hx; cases hx
    · simp only [Cx.vt, hxb, if_false]; exact tgrow.refl _⟩
  have hle : nx.le nx' := by
    rcases hb with ⟨_, _, h⟩ | ⟨_, h⟩
    · rw [h]; exact Ids.le.refl _
    · rw [h]; exact iadd_le _ _
  have hold : ∀ x k, x ≠ b → place (c.vt b ver g cap) x k = place c x k := fun x k hx => place_mono rfl (by simp [Cx.vt, hx])
  have hme : place (c.vt b ver g cap) b (.vec e sz ver xs) = some g := by simp [place, Cx.vt]
  have hother : ∀ x k g', x ≠ b → H x = some k → place c x k = some g' → g' ≠ g := fun x k g' hx hkx hp e => by
    rw [e] at hp
    rcases hg with hg | ⟨k', hk', hp'⟩
    · have := ((hw.blk x k hkx).place_lt hp).1; omega
    · exact hx (hw.inj x b k k' g hkx hk' hp hp')
  refine ⟨⟨fun x k hx => ?_, fun x x' k k' gg hx hx' hp hp' => ?_, fun x k hx => ?_, fun x k hx hlt => ?_, fun b hb => hle b (hw.n0 b hb), fun g' o hk => Nat.lt_of_lt_of_le (hw.kb g' o hk) h3, fun g' hg' => Nat.lt_of_lt_of_le (hw.fb g' hg') h3⟩,
    hst, hst.le hw.le0, fun g' hg' => h2 g' (fun e => hF (e ▸ hg')), fun _ _ hk => .inl hk, h3, fun x hx hd => ?_, hio⟩
  · rcases hset_some hx with ⟨rfl, rfl⟩ | ⟨hne, hx⟩
    · exact ⟨some (g, cap), by simp [Cx.vt], cur, hcur, hv, hcap, hsz, hF, hK⟩
    · obtain ⟨hlt, hun⟩ := hw.bh x k hx
      exact (hw.blk x k hx).mono hst hlt hun (fun g' hp => h2 g' (hother x k g' hne hx hp)) (fun _ _ _ hk => hk) (by simp [Cx.vt, hne])
  · rcases hset_some hx with ⟨rfl, rfl⟩ | ⟨hne, hx0⟩ <;> rcases hset_some hx' with ⟨rfl, rfl⟩ | ⟨hne', hx0'⟩
    · rfl
    · rw [hme] at hp; cases hp
      rw [hold _ _ hne'] at hp'
      exact absurd rfl (hother x' k' _ hne' hx0' hp')
    · rw [hme] at hp'; cases hp'
      rw [hold _ _ hne] at hp
      exact absurd rfl (hother x k _ hne hx0 hp)
    · rw [hold _ _ hne] at hp
      rw [hold _ _ hne'] at hp'
      exact hw.inj x x' k k' gg hx0 hx0' hp hp'
  · rcases hset_some hx with ⟨rfl, rfl⟩ | ⟨hne, hx0⟩
    · refine ⟨?_, rfl⟩
      rcases hb with ⟨h, _, h2⟩ | ⟨h, h2⟩
      · rw [h2]; exact h
      · rw [h2]; exact iadd_self _ _
    · exact ⟨hle _ (hw.bh x k hx0).1, Blk.under_le hle k (hw.bh x k hx0).2⟩
  · rcases hset_some hx with ⟨rfl, rfl⟩ | ⟨hne, hx0⟩
    · rcases hb with ⟨_, ⟨m, _, ⟨e', xs', hm⟩, _⟩, _⟩ | ⟨h, _⟩
      · exact hw.dm _ _ hm hlt
      · rw [hw.n0 _ hlt] at h; cases h
    · exact hw.dm x k hx0 hlt
  · rcases hb with ⟨_, ⟨m, _, ⟨e', xs', hm⟩, _⟩, _⟩ | ⟨h, _⟩
    · have : x ≠ b := fun e => hd (e ▸ hw.dm _ _ hm (e ▸ hx))
      simp [Cx.vt, this]
    · simp [Cx.vt, ne_of_ids (hw.n0 x hx) h]

/-- elements that can be copied. -/
structure SrcRel (c : Cx) (w : World) (sz : Nat) (ys : List Pd) (v : Value) : Prop where
  ex : ∃ (gx ox capx : Nat) (us : List Value), v = .slice (some ⟨gx, ox, none⟩) ys.length capx ∧ us.length = ys.length * sz ∧ (∀ (t : Nat) (u : Value), us[t]? = some u → w.cell? ⟨gx, ox + t, none⟩ = some u ∧ u.oneCell' = true) ∧
    ∀ (i : Nat) (y : Pd) (j : Nat) (q : Pd), ys[i]? = some y → y.cells[j]? = some q → ∃ u, us[i * sz + j]? = some u ∧ Rp c.K w q u

theorem SrcRel.list {c : Cx} {w : World} {sz : Nat} {ys : List Pd} {v : Value} (h : Rp c.K w (.list ys) v) (hne : ys ≠ []) (hs : ∀ y ∈ ys, y.cells.length = sz) (h0 : 0 < sz) : SrcRel c w sz ys v := by
  rcases h.cellsOf hs h0 with ⟨_, h⟩ | ⟨gx, ox, capx, us, hv, hul, _, huc, hur⟩
  · exact absurd h hne
  · exact ⟨gx, ox, capx, us, hv, hul, fun t u hu => (huc t u hu).2, hur⟩

theorem SrcRel.vec {n0 d0 H nx c F w} (hw : WRel n0 d0 H nx c F w) {b e sz ver lo n : Nat} {xs : List Pd} {v : Value} (hb : H b = some (.vec e sz ver xs)) (hv : Rd c w (.vec b ver sz lo n) v) (hn : 0 < n) (hle : lo + n ≤ xs.length) :
    SrcRel c w sz ((xs.drop lo).take n) v := by
  obtain ⟨g, cap, o, cur, hτ, hxv, hoo, hlc, hg, hvr, hcm, hcs, hnF, hnK⟩ := vec_at hw hb hv hn
  have hnn := hvr.n
  have hlen : ((xs.drop lo).take n).length = n := by simp; omega
  have h1 : (lo + n) * sz ≤ xs.length * sz := Nat.mul_le_mul_right _ hle
  rw [Nat.add_mul] at h1
  have hget : ∀ t, t < n * sz → ((cur.toList.drop (lo * sz)).take (n * sz))[t]? = cur[lo * sz + t]? := fun t ht => by
    rw [List.getElem?_take, if_pos ht, List.getElem?_drop]; simp
  refine ⟨g, o, cap - lo, (cur.toList.drop (lo * sz)).take (n * sz), by rw [hlen]; exact hxv, by rw [hlen]; simp; omega, fun t u hu => ?_, fun i y j q hy hq => ?_⟩
  · have ht : t < n * sz := by have := (List.getElem?_eq_some_iff.1 hu).1; simp at this; omega
    rw [hget t ht] at hu
    refine ⟨?_, hvr.one _ u (by omega) hu⟩
    rw [hoo, cell_of_row w g _ _ _ _ hg]; exact hu
  · have hi : i < n := by have := (List.getElem?_eq_some_iff.1 hy).1; omega
    rw [List.getElem?_take, if_pos hi, List.getElem?_drop] at hy
    obtain ⟨u, hu, hr⟩ := hvr.r (lo + i) y j q hy hq
    have hj : j < sz := by rw [← hvr.s y (List.mem_of_getElem? hy)]; exact (List.getElem?_eq_some_iff.1 hq).1
    have : (i + 1) * sz ≤ n * sz := Nat.mul_le_mul_right _ hi
    rw [Nat.add_mul, Nat.one_mul] at this
    refine ⟨u, ?_, hr⟩
    rw [hget _ (by omega), ← hu, Nat.add_mul]
    congr 1; omega

def srcK (x : D) (sz : Nat) (H : Heap) (K : List Pd → Fp → Prop) : Prop :=
  match x with
  | .vec b ver sz' lo n => match Nat.beq sz sz' with
    | true => match H b with
      | some (.vec _ sz2 v xs) => match Nat.beq sz sz2 with
        | true => needP (v = ver ∧ 0 < n ∧ lo + n ≤ xs.length) (K ((xs.drop lo).take n) ⟨[b], []⟩)
        | false => stuckP "append: source"
      | _ => stuckP "append: source"
    | false => stuckP "append: source"
  | x => match x.list? with
    | some ys => K ys fp0
    | none => stuckP "append: source"

theorem srcK_sound {x : D} {sz : Nat} {H : Heap} {K : List Pd → Fp → Prop} (h0 : 0 < sz) (h : srcK x sz H K) : ∃ ys fp, K ys fp ∧ fp.w = [] ∧
    ∀ {n0 d0 nx c F w} {H2 : Heap} {v : Value}, (∀ b ∈ fp.r, H2 b = H b) → WRel n0 d0 H2 nx c F w → Rd c w x v → ys ≠ [] → (∀ y ∈ ys, y.cells.length = sz) → SrcRel c w sz ys v := by
  have list_ : (match x.list? with | some ys => K ys fp0 | none => stuckP "append: source") → ∃ ys fp, K ys fp ∧ fp.w = [] ∧
    ∀ {n0 d0 nx c F w} {H2 : Heap} {v : Value}, (∀ b ∈ fp.r, H2 b = H b) → WRel n0 d0 H2 nx c F w → Rd c w x v → ys ≠ [] → (∀ y ∈ ys, y.cells.length = sz) → SrcRel c w sz ys v := by
    intro h
    split at h
    · rename_i ys hys
      exact ⟨ys, fp0, h, rfl, fun _ _ hr hne hs => SrcRel.list (list?_rp hys hr) hne hs h0⟩
    · simp [stuckP] at h
  unfold srcK at h
  split at h
  · rename_i b ver sz' lo n
    split at h
    case h_2 => simp [stuckP] at h
    rename_i hs1
    have hs1 := Nat.eq_of_beq_eq_true hs1
    subst hs1
    split at h
    case h_2 => simp [stuckP] at h
    rename_i e2 sz2 v xs hb
    split at h
    case h_2 => simp [stuckP] at h
    rename_i hs2
    have hs2 := Nat.eq_of_beq_eq_true hs2
    subst hs2
    simp only [needP_iff] at h
    obtain ⟨⟨rfl, hn, hle⟩, hk⟩ := h
    exact ⟨_, _, hk, rfl, fun hH hw hr _ _ => SrcRel.vec hw ((hH b (by simp)).trans hb) hr hn hle⟩
  · exact list_ h
end Qa

namespace Qa
open Go

/-- cells of elements. -/
structure CellsOf (K : Nat → Nat → Prop) (w : World) (sz : Nat) (xs : List Pd) (us : List Value) : Prop where
  s : ∀ x ∈ xs, x.cells.length = sz
  l : us.length = xs.length * sz
  one : ∀ u ∈ us, u.oneCell' = true
  r : ∀ (i : Nat) (x : Pd) (j : Nat) (q : Pd), xs[i]? = some x → x.cells[j]? = some q → ∃ u, us[i * sz + j]? = some u ∧ Rp K w q u

theorem CellsOf.nil {K : Nat → Nat → Prop} {w : World} {sz : Nat} : CellsOf K w sz [] [] := ⟨by simp, by simp, by simp, by simp⟩
theorem CellsOf.mono {K K' : Nat → Nat → Prop} {w w' : World} {sz : Nat} {xs : List Pd} {us : List Value} (h : CellsOf K w sz xs us) (s : KStep K w K' w') : CellsOf K' w' sz xs us :=
  ⟨h.s, h.l, h.one, fun i x j q h1 h2 => by obtain ⟨u, a, b⟩ := h.r i x j q h1 h2; exact ⟨u, a, b.mono s⟩⟩
theorem CellsOf.append {K : Nat → Nat → Prop} {w : World} {sz : Nat} {xs ys : List Pd} {us vs : List Value} (h : CellsOf K w sz xs us) (k : CellsOf K w sz ys vs) : CellsOf K w sz (xs ++ ys) (us ++ vs) := by
  refine ⟨fun x hx => ?_, by simp [h.l, k.l, Nat.add_mul], fun u hu => ?_, fun i x j q hx hq => ?_⟩
  · rcases List.mem_append.1 hx with hx | hx
    · exact h.s x hx
    · exact k.s x hx
  · rcases List.mem_append.1 hu with hu | hu
    · exact h.one u hu
    · exact k.one u hu
  · by_cases hi : i < xs.length
    · rw [List.getElem?_append_left hi] at hx
      obtain ⟨u, hu, hr⟩ := h.r i x j q hx hq
      exact ⟨u, by rw [List.getElem?_append_left (List.getElem?_eq_some_iff.1 hu).1]; exact hu, hr⟩
    · rw [List.getElem?_append_right (Nat.le_of_not_lt hi)] at hx
      obtain ⟨u, hu, hr⟩ := k.r _ x j q hx hq
      refine ⟨u, ?_, hr⟩
      have hge : us.length ≤ i * sz + j := by rw [h.l]; exact Nat.le_trans (Nat.mul_le_mul_right sz (Nat.le_of_not_lt hi)) (Nat.le_add_right _ _)
      rw [List.getElem?_append_right hge, h.l, show i * sz + j - xs.length * sz = (i - xs.length) * sz + j by rw [Nat.sub_mul]; have := Nat.mul_le_mul_right sz (Nat.le_of_not_lt hi); omega]
      exact hu
theorem CellsOf.vec {K : Nat → Nat → Prop} {w : World} {sz : Nat} {xs : List Pd} {us rest : List Value} (h : CellsOf K w sz xs us) : VecRel K w sz xs (us ++ rest).toArray := by
  refine ⟨h.s, by simp [h.l], fun t u ht hu => ?_, fun i x j q hx hq => ?_⟩
  · rw [← h.l] at ht
    simp only [List.getElem?_toArray] at hu
    rw [List.getElem?_append_left ht] at hu
    exact h.one u (List.mem_of_getElem? hu)
  · obtain ⟨u, hu, hr⟩ := h.r i x j q hx hq
    refine ⟨u, ?_, hr⟩
    simp only [List.getElem?_toArray]
    rw [List.getElem?_append_left (List.getElem?_eq_some_iff.1 hu).1]; exact hu
/-- the first elements of a vector. -/
theorem VecRel.take {K : Nat → Nat → Prop} {w : World} {sz : Nat} {xs : List Pd} {cur : Array Value} (h : VecRel K w sz xs cur) {n : Nat} (hn : n ≤ xs.length) : CellsOf K w sz (xs.take n) (cur.toList.take (n * sz)) := by
  have hnn := h.n
  have h1 : n * sz ≤ xs.length * sz := Nat.mul_le_mul_right _ hn
  have hlen : (xs.take n).length = n := by simp; omega
  refine ⟨fun x hx => h.s x (List.mem_of_mem_take hx), by rw [hlen]; simp; omega, fun u hu => ?_, fun i x j q hx hq => ?_⟩
  · obtain ⟨t, ht⟩ := List.getElem?_of_mem hu
    have hlt : t < n * sz := by have := (List.getElem?_eq_some_iff.1 ht).1; simp at this; omega
    rw [List.getElem?_take, if_pos hlt] at ht
    exact h.one t u (by omega) (by simpa using ht)
  · have hi : i < n := by have := (List.getElem?_eq_some_iff.1 hx).1; omega
    rw [List.getElem?_take, if_pos hi] at hx
    obtain ⟨u, hu, hr⟩ := h.r i x j q hx hq
    have hj : j < sz := by rw [← h.s x (List.mem_of_getElem? hx)]; exact (List.getElem?_eq_some_iff.1 hq).1
    have : (i + 1) * sz ≤ n * sz := Nat.mul_le_mul_right _ hi
    rw [Nat.add_mul, Nat.one_mul] at this
    exact ⟨u, by rw [List.getElem?_take, if_pos (by omega)]; simpa using hu, hr⟩

/-- a new row for a vector. -/
theorem vec_fresh {P : Program} {n0 : Nat} {d0 F : Nat → Prop} {H : Heap} {nx nx' : Ids} {c : Cx} {w : World} (hw : WRel n0 d0 H nx c F w) {b ver e sz cap : Nat} {xs : List Pd} {us rest : List Value}
    (hb : (nx b = true ∧ (∃ m, m < ver ∧ (∃ e xs, H b = some (.vec e sz m xs)) ∧ ∃ p, c.τ b = some (m, p)) ∧ nx' = nx) ∨ (nx b = false ∧ nx' = iadd nx b))
    (hc : CellsOf c.K w sz xs us) (hle : xs.length ≤ cap) (hcap : cap ≤ maxLen) (hl : (us ++ rest).length = cap * sz) :
    Rd (c.vt b ver w.heap.size cap) (w.drew.alloc (.cells (us ++ rest).toArray e)) (.vec b ver sz 0 xs.length) (.slice (some ⟨w.heap.size, 0, none⟩) xs.length cap) ∧
      WRel n0 d0 (hset H b (.vec e sz ver xs)) nx' (c.vt b ver w.heap.size cap) F (w.drew.alloc (.cells (us ++ rest).toArray e)) ∧ Step nx c w (c.vt b ver w.heap.size cap) (w.drew.alloc (.cells (us ++ rest).toArray e)) ∧
      Later n0 d0 F c w (c.vt b ver w.heap.size cap) (w.drew.alloc (.cells (us ++ rest).toArray e)) := by
  have hks : KStep c.K w c.K (w.drew.alloc (.cells (us ++ rest).toArray e)) := fun g o hk => ⟨hk, fun u hu => by
    rw [World.cell?_alloc_lt (h := cell_lt hu)]; exact hu⟩
  obtain ⟨h1, h2, h3⟩ := vt_put hw (b := b) (g := w.heap.size) (cap := cap) (ver := ver) (e := e) (sz := sz) (xs := xs) (cur := (us ++ rest).toArray) hb (.inl rfl) (fun hf => Nat.lt_irrefl _ (hw.fb _ hf))
    (fun o hk => Nat.lt_irrefl _ (hw.kb _ _ hk)) (w.drew.alloc (.cells (us ++ rest).toArray e)) (fun g' hg' => by
      by_cases hlt : g' < w.heap.size
      · exact heap_alloc_old w.drew _ hlt
      · have hge : w.heap.size < g' := by omega
        rw [Array.getElem?_eq_none (by simp; omega), Array.getElem?_eq_none (by omega)]) (by simp) (heap_alloc_new w.drew _) (hc.mono hks).vec hcap (by simpa using hl)
  refine ⟨⟨⟨_, _, rfl⟩, fun ver' p e => ?_⟩, h1, h2, h3⟩
  simp [Cx.vt] at e
  obtain ⟨rfl, rfl⟩ := e
  exact ⟨Nat.le_refl _, fun _ => ⟨0, by simp, fun _ => by simp, by omega⟩⟩

theorem app_vec {P : Program} {T : Ty} (hT : TyOk P T) {t e : TypeId} {sz by_ : Nat} (ht : (T t).d = .slice e sz by_) (h0 : 0 < sz) (hb0 : 0 < by_)
    {n0 : Nat} {d0 F : Nat → Prop} {H : Heap} {nx nx' : Ids} {c : Cx} {w : World} (hw : WRel n0 d0 H nx c F w) {b ver n : Nat} {xs ys : List Pd} {v x : Value}
    (hx : SrcRel c w sz ys x) (hne : ys ≠ []) (hys : ∀ y ∈ ys, y.cells.length = sz) (hby : (n + ys.length) * by_ ≤ 140737488355328) (hnx : n ≤ xs.length)
    (hb : (H b = some (.vec e sz ver xs) ∧ Rd c w (.vec b ver sz 0 n) v ∧ nx' = nx) ∨ (nx b = false ∧ v = .slice none 0 0 ∧ n = 0 ∧ nx' = iadd nx b)) :
    ∃ v' w' c', (∀ ty, (Builtin.append_ #[t, t] ty #[v, x]).run P w = .ok v' w') ∧ Rd c' w' (.vec b (ver + 1) sz 0 (n + ys.length)) v' ∧
      WRel n0 d0 (hset H b (.vec e sz (ver + 1) (xs.take n ++ ys))) nx' c' F w' ∧ Step nx c w c' w' ∧ Later n0 d0 F c w c' w' := by
  have hu := (hT t).und
  rw [ht] at hu
  obtain ⟨hun, i, z, hi, hsi, hbi, hz, hzs⟩ := hu
  have hml : n + ys.length ≤ 140737488355328 := Nat.le_trans (Nat.le_mul_of_pos_right _ hb0) hby
  have hmax : n + ys.length ≤ maxLen := by unfold maxLen; omega
  have hpos : 0 < ys.length := List.length_pos_iff.2 hne
  obtain ⟨gx, ox, capx, us, rfl, hul, huc, hur⟩ := hx
  have hul' : us.length = ys.length * i.size := by rw [hsi]; exact hul
  have hnews : ∀ j u, us[j]? = some u → w.cell? ((⟨gx, ox, none⟩ : Addr).add j) = some u := fun j u hj => by rw [add_none]; exact (huc j u hj).1
  have ho1 : ∀ u ∈ us, u.oneCell' = true := fun u hu => by
    obtain ⟨j, hj⟩ := List.getElem?_of_mem hu
    exact (huc j u hj).2
  have hcy : CellsOf c.K w sz ys us := ⟨hys, hul, ho1, hur⟩
  have hlen : (xs.take n).length = n := by simp; omega
  have hlen2 : (xs.take n ++ ys).length = n + ys.length := by simp; omega
  -- a nil slice
  have viaNil : v = .slice none 0 0 → n = 0 → ((nx b = true ∧ (∃ m, m < ver + 1 ∧ (∃ e xs, H b = some (.vec e sz m xs)) ∧ ∃ p, c.τ b = some (m, p)) ∧ nx' = nx) ∨ (nx b = false ∧ nx' = iadd nx b)) →
      ∃ v' w' c', (∀ ty, (Builtin.append_ #[t, t] ty #[v, .slice (some ⟨gx, ox, none⟩) ys.length capx]).run P w = .ok v' w') ∧ Rd c' w' (.vec b (ver + 1) sz 0 (n + ys.length)) v' ∧
      WRel n0 d0 (hset H b (.vec e sz (ver + 1) (xs.take n ++ ys))) nx' c' F w' ∧ Step nx c w c' w' ∧ Later n0 d0 F c w c' w' := by
    rintro rfl rfl hbb
    have hr := fun ty => run_append_nil (P := P) w t ty e i z hun hi hz ⟨gx, ox, none⟩ ys.length capx us hul' hnews hpos (by omega) (by rw [hbi]; simp at hby; omega)
    have hge := grownCap_ge w ys.length 0 e
    have hgm := grownCap_le_maxLen w ys.length 0 e (by simpa using hmax)
    obtain ⟨h1, h2, h3, h4⟩ := vec_fresh (P := P) hw (b := b) (ver := ver + 1) (e := e) (cap := grownCap w ys.length 0 e) (rest := (Builtin.zeroCells z.cells (grownCap w ys.length 0 e - ys.length)).toList) hbb hcy hge hgm
      (by simp only [List.length_append, Array.length_toList, size_zeroCells, hzs, hul, ← Nat.add_mul]; congr 1; omega)
    refine ⟨_, _, _, fun ty => (hr ty).trans ?_, by simpa using h1, by simpa using h2, h3, h4⟩
    have e1 : us.toArray ++ Builtin.zeroCells z.cells (grownCap w ys.length 0 e - ys.length) = (us ++ (Builtin.zeroCells z.cells (grownCap w ys.length 0 e - ys.length)).toList).toArray := by
      apply Array.toList_inj.1; simp
    rw [e1]
  rcases hb with ⟨hH, hrd, rfl⟩ | ⟨hbn, hv, hn, rfl⟩
  case inr => exact viaNil hv hn (.inr ⟨hbn, rfl⟩)
  obtain ⟨p, hp, hq⟩ := hw.blk b _ hH
  have hvv := (hrd.2 _ _ hp).2 rfl
  have hbb : (nx' b = true ∧ (∃ m, m < ver + 1 ∧ (∃ e xs, H b = some (.vec e sz m xs)) ∧ ∃ p, c.τ b = some (m, p)) ∧ nx' = nx') := ⟨(hw.bh b _ hH).1, ⟨ver, Nat.lt_succ_self _, ⟨_, _, hH⟩, p, hp⟩, rfl⟩
  cases p with
  | none => exact viaNil hvv.2.2 hvv.2.1 (.inl hbb)
  | some q =>
    obtain ⟨g, cap⟩ := q
    obtain ⟨o, rfl, hoo, hle⟩ := hvv
    obtain ⟨cur, hg, hvr, hcm, hcs, hnF, hnK⟩ := hq
    simp only [Nat.sub_zero, Nat.zero_add, Nat.zero_mul] at hoo hle ⊢
    have hct := hvr.take hnx
    have hnn := hvr.n
    have hn1 : n * sz ≤ xs.length * sz := Nat.mul_le_mul_right _ hnx
    by_cases hroom : n + ys.length ≤ cap
    · have ho := hoo (by omega)
      subst ho
      have hfit : n * i.size + us.length ≤ cur.size := by rw [hsi, hul, hcs, ← Nat.add_mul]; exact Nat.mul_le_mul_right _ hroom
      have hr := fun ty => run_append_room (P := P) w t ty e i hun hi g n cap cur hg ⟨gx, ox, none⟩ ys.length capx us hul' hnews ho1 hroom hfit
      rw [hsi] at hr hfit
      generalize hcur' : (cur.toList.take (n * sz) ++ us ++ cur.toList.drop (n * sz + us.length)).toArray = cur' at hr
      have hks : KStep c.K w c.K (w.setRow g cur') := fun g' o hk => ⟨hk, fun u hu => by
        have hne : g' ≠ g := fun e => hnK o (e ▸ hk)
        rw [World.cell?_of_block (w := w) (setRow_other w _ _ _ hne)]; exact hu⟩
      have hcs' : cur'.size = cap * sz := by
        subst hcur'
        simp
        omega
      obtain ⟨h1, h2, h3⟩ := vt_put hw (b := b) (g := g) (cap := cap) (ver := ver + 1) (e := e) (sz := sz) (xs := xs.take n ++ ys) (cur := cur') (.inl hbb) (.inr ⟨_, hH, by simp [place, hp]⟩) hnF hnK (w.setRow g cur')
        (fun g' hg' => setRow_other w _ _ _ hg') (by simp [World.setRow]) (setRow_heap w g _ _ e _ hg) (by subst hcur'; exact ((hct.append hcy).mono hks).vec) hcm hcs'
      refine ⟨_, _, _, hr, ⟨⟨_, _, rfl⟩, fun ver' p e => ?_⟩, h1, h2, h3⟩
      simp [Cx.vt] at e
      obtain ⟨rfl, rfl⟩ := e
      exact ⟨Nat.le_refl _, fun _ => ⟨0, by simp, fun _ => by simp, by omega⟩⟩
    · have hr := fun ty => run_append_grow (P := P) w t ty e i z hun hi hz ⟨g, o, none⟩ n cap (cur.toList.take (n * sz)) (by rw [hct.l, hlen, hsi]) (fun j u hj => by
          rw [add_none]
          have hlt := (List.getElem?_eq_some_iff.1 hj).1
          rw [hct.l, hlen] at hlt
          have hcap0 : cap ≠ 0 := by intro e; subst e; have : n = 0 := by omega
                                     subst this; simp at hlt
          rw [hoo hcap0, Nat.zero_add, cell_of_row w g j _ _ _ hg]
          rw [List.getElem?_take, if_pos hlt] at hj
          simpa using hj) ⟨gx, ox, none⟩ ys.length capx us hul' hnews (by omega) (by omega) (growslice_fits (by omega) (by rw [hbi]; exact hby))
      have hge := grownCap_ge w (n + ys.length) cap e
      have hgm := grownCap_le_maxLen w (n + ys.length) cap e hmax
      obtain ⟨h1, h2, h3, h4⟩ := vec_fresh (P := P) hw (b := b) (ver := ver + 1) (e := e) (cap := grownCap w (n + ys.length) cap e) (rest := (Builtin.zeroCells z.cells (grownCap w (n + ys.length) cap e - (n + ys.length))).toList)
        (.inl hbb) (hct.append hcy) (by rw [hlen2]; exact hge) hgm (by
          simp only [List.length_append, Array.length_toList, size_zeroCells, hzs, hul, hct.l, hlen, ← Nat.add_mul]; congr 1; omega)
      rw [hlen2] at h1
      refine ⟨_, _, _, fun ty => (hr ty).trans ?_, h1, h2, h3, h4⟩
      have e1 : (cur.toList.take (n * sz)).toArray ++ us.toArray ++ Builtin.zeroCells z.cells (grownCap w (n + ys.length) cap e - (n + ys.length)) =
          (cur.toList.take (n * sz) ++ us ++ (Builtin.zeroCells z.cells (grownCap w (n + ys.length) cap e - (n + ys.length))).toList).toArray := by
        apply Array.toList_inj.1; simp
      rw [e1]
end Qa

namespace Qa
open Go

-- append
def appV (T : Ty) (t t2 b ver sz lo n : Nat) (x : D) (H : Heap) (nx : Nat) (K : D → Heap → Nat → Fp → Prop) : Prop :=
  match Nat.beq t t2 with
  | true => match (T t).d with
    | .slice e sz' by_ => match Nat.beq sz sz' && Nat.blt 0 sz && Nat.blt 0 by_ with
      | true => match H b with
        | some (.vec e2 sz2 v xs) => match Nat.beq e e2 && Nat.beq sz sz2 with
          | true => srcK x sz H fun ys fp => needP (v = ver ∧ lo = 0 ∧ n ≤ xs.length ∧ ys ≠ [] ∧ (∀ y ∈ ys, y.cells.length = sz) ∧ (n + ys.length) * by_ ≤ 140737488355328)
              (K (.vec b (ver + 1) sz 0 (n + ys.length)) (hset H b (.vec e sz (ver + 1) (xs.take n ++ ys))) nx ⟨fp.r, [b]⟩)
          | false => stuckP "append: vector"
        | _ => stuckP "append: vector"
      | false => stuckP "append: size"
    | _ => stuckP "append: type"
  | false => stuckP "append: types"

theorem appV_sound {P : Program} {T : Ty} (hT : TyOk P T) {t t2 : TypeId} {s x : Operand} {b ver sz lo n : Nat} {A : Tmps} {H : Heap} {nb : Nat} {K : D → Heap → Nat → Fp → Prop} (hs : ev A s = .vec b ver sz lo n)
    (h : appV T t t2 b ver sz lo n (ev A x) H nb K) : ∃ d b blk fp, K d (hset H b blk) nb fp ∧ fp.w = [b] ∧ ∀ (nx : Ids) (H2 : Heap), (∀ b ∈ fp.r ++ fp.w, H2 b = H b) →
      OpOut P (.call { callee := .builtin .append, args := #[s, x], argTypes := #[t, t2] }) A H2 nx d (hset H2 b blk) nx := by
  unfold appV at h
  split at h
  case h_2 => simp [stuckP] at h
  rename_i htt
  have htt := Nat.eq_of_beq_eq_true htt
  subst htt
  split at h
  case h_2 => simp [stuckP] at h
  rename_i e sz' by_ ht
  split at h
  case h_2 => simp [stuckP] at h
  rename_i hc
  simp only [Bool.and_eq_true] at hc
  obtain ⟨⟨hs1, hpos⟩, hb0⟩ := hc
  have hs1 := Nat.eq_of_beq_eq_true hs1
  subst hs1
  have h0 : 0 < sz := by simpa using hpos
  have hb0 : 0 < by_ := by simpa using hb0
  split at h
  case h_2 => simp [stuckP] at h
  rename_i e2 sz2 v xs hb
  split at h
  case h_2 => simp [stuckP] at h
  rename_i he2
  simp only [Bool.and_eq_true] at he2
  have e1 := Nat.eq_of_beq_eq_true he2.1
  have e2' := Nat.eq_of_beq_eq_true he2.2
  subst e1
  subst e2'
  obtain ⟨ys, fp, h, hfp, hsrc⟩ := srcK_sound h0 h
  simp only [needP_iff] at h
  obtain ⟨⟨rfl, rfl, hn, hne, hys, hby⟩, hk⟩ := h
  refine ⟨_, b, _, _, hk, rfl, fun nx H2 hH2 => .run (Ids.le.refl _) fun oo n0 d0 F c a w ho he hw => ?_⟩
  have hb2 : H2 b = some (.vec e sz v xs) := (hH2 b (by simp)).trans hb
  obtain ⟨hrs, hus⟩ := he s (by simp [Op.operands, Call.operands])
  obtain ⟨hrx, _⟩ := he x (by simp [Op.operands, Call.operands])
  rw [hs] at hrs hus
  obtain ⟨v', w', c', hr, hd, hw', hst, hla⟩ := app_vec hT ht h0 hb0 hw (b := b) (nx' := nx) (hsrc (fun b hb => hH2 b (by simp [hb])) hw hrx hne hys) hne hys hby hn (.inl ⟨hb2, hrs, rfl⟩)
  exact ⟨by simpa [D.under] using hus, v', w', .inl (execOp_append ho hr rfl), c', hd, hw', hst, hla⟩

def nilV (T : Ty) (t t2 : Nat) (x : D) (H : Heap) (nx : Nat) (K : D → Heap → Nat → Fp → Prop) : Prop :=
  match Nat.beq t t2 with
  | true => match (T t).d with
    | .slice e sz by_ => match Nat.blt 0 sz && Nat.blt 0 by_ with
      | true => srcK x sz H fun ys fp => needP (ys ≠ [] ∧ (∀ y ∈ ys, y.cells.length = sz) ∧ ys.length * by_ ≤ 140737488355328)
              (K (.vec nx 1 sz 0 ys.length) (hset H nx (.vec e sz 1 ys)) (nx + 1) ⟨fp.r, [nx]⟩)
      | false => stuckP "append: size"
    | _ => stuckP "append: type"
  | false => stuckP "append: types"

theorem nilV_sound {P : Program} {T : Ty} (hT : TyOk P T) {t t2 : TypeId} {s x : Operand} {A : Tmps} {H : Heap} {nb : Nat} {K : D → Heap → Nat → Fp → Prop} (hs : ev A s = .nilsl)
    (h : nilV T t t2 (ev A x) H nb K) : ∃ d blk fp, K d (hset H nb blk) (nb + 1) fp ∧ fp.w = [nb] ∧ ∀ (nx : Ids) (H2 : Heap), (∀ b ∈ fp.r, H2 b = H b) → nx nb = false →
      OpOut P (.call { callee := .builtin .append, args := #[s, x], argTypes := #[t, t2] }) A H2 nx d (hset H2 nb blk) (iadd nx nb) := by
  unfold nilV at h
  split at h
  case h_2 => simp [stuckP] at h
  rename_i htt
  have htt := Nat.eq_of_beq_eq_true htt
  subst htt
  split at h
  case h_2 => simp [stuckP] at h
  rename_i e sz by_ ht
  split at h
  case h_2 => simp [stuckP] at h
  rename_i hc
  simp only [Bool.and_eq_true] at hc
  have h0 : 0 < sz := by simpa using hc.1
  have hb0 : 0 < by_ := by simpa using hc.2
  obtain ⟨ys, fp, h, hfp, hsrc⟩ := srcK_sound h0 h
  simp only [needP_iff] at h
  obtain ⟨⟨hne, hys, hby⟩, hk⟩ := h
  refine ⟨_, _, _, hk, rfl, fun nx H2 hH2 hfr => .run (iadd_le _ _) fun oo n0 d0 F c a w ho he hw => ?_⟩
  obtain ⟨hrs, hus⟩ := he s (by simp [Op.operands, Call.operands])
  obtain ⟨hrx, _⟩ := he x (by simp [Op.operands, Call.operands])
  rw [hs] at hrs
  have hrs : a.eval s = .slice none 0 0 := hrs
  obtain ⟨v', w', c', hr, hd, hw', hst, hla⟩ := app_vec hT ht h0 hb0 hw (b := nb) (ver := 0) (n := 0) (xs := []) (nx' := iadd nx nb) (v := a.eval s) (hsrc hH2 hw hrx hne hys) hne hys (by simpa using hby) (Nat.le_refl _) (.inr ⟨hfr, hrs, rfl, rfl⟩)
  exact ⟨by simp [D.under, iadd_self], v', w', .inl (execOp_append ho hr rfl), c', by simpa using hd, by simpa using hw', hst, hla⟩

-- parts of a vector
def sliceV (T : Ty) (t b ver sz lo n : Nat) (l h mx : Option Operand) (A : Tmps) (H : Heap) (K : D → Fp → Prop) : Prop :=
  match (T t).d with
  | .slice _ sz' _ => match Nat.beq sz sz' with
    | true => match mx with
      | none => match H b with
        | some (.vec _ sz2 v _) => match Nat.beq sz sz2 with
          | true => bndK h A n fun h => bndK l A 0 fun l => needP (v = ver ∧ 0 ≤ l ∧ l ≤ h ∧ h ≤ n) (K (.vec b ver sz (lo + l.toNat) (h.toNat - l.toNat)) ⟨[b], []⟩)
          | false => stuckP "slice: vector"
        | _ => stuckP "slice: vector"
      | some _ => stuckP "slice: vector with a third bound"
    | false => stuckP "slice: vector"
  | _ => stuckP "slice: vector"

theorem sliceV_sound {P : Program} {T : Ty} (hT : TyOk P T) {t : TypeId} {x : Operand} {l h mx : Option Operand} {b ver sz lo n : Nat} {A : Tmps} {H : Heap} {K : D → Fp → Prop} (hx : ev A x = .vec b ver sz lo n)
    (hh : sliceV T t b ver sz lo n l h mx A H K) : ∃ d fp, K d fp ∧ ∀ (nx : Ids) (H2 : Heap), (∀ b ∈ fp.r ++ fp.w, H2 b = H b) → OpOut P (.slice t x l h mx) A H2 nx d H2 nx := by
  have hops : ∀ y ∈ l.toList ++ h.toList ++ mx.toList, y ∈ (Op.slice t x l h mx).operands := fun y hy => by
    simp [Op.operands] at hy ⊢; exact .inr hy
  unfold sliceV at hh
  split at hh
  case h_2 => simp [stuckP] at hh
  rename_i e sz' by_ ht
  split at hh
  case h_2 => simp [stuckP] at hh
  rename_i hs1
  have hs1 := Nat.eq_of_beq_eq_true hs1
  subst hs1
  split at hh
  case h_2 => simp [stuckP] at hh
  split at hh
  case h_2 => simp [stuckP] at hh
  rename_i e2 sz2 v xs hb
  split at hh
  case h_2 => simp [stuckP] at hh
  rename_i hs2
  have hs2 := Nat.eq_of_beq_eq_true hs2
  subst hs2
  obtain ⟨q, hh, hq⟩ := bndK_inv hh
  obtain ⟨p, hh, hp⟩ := bndK_inv hh
  simp only [needP_iff] at hh
  obtain ⟨⟨rfl, c1, c2, c3⟩, hk⟩ := hh
  have hu := (hT t).und
  rw [ht] at hu
  obtain ⟨hun, i, z, hi', hsi, _⟩ := hu
  have run : ∀ (oo : Oper) (a : Act) (w : World) (base : Option Addr) (len cap l' hh m : Nat), oo.op = .slice t x l h none → a.eval x = .slice base len cap →
      (Instr.sliceBounds true len cap (l.map a.eval) (h.map a.eval) ((none : Option Operand).map a.eval)).run P w = .ok (l', hh, m) w →
      (execOp a.eval oo).run P w = .ok (.value (.slice (if m = l' then base else base.map (·.add (l' * sz))) (hh - l') (m - l'))) w := by
    intro oo a w base len cap l' hh m ho hx hb
    unfold execOp
    simp only [ho, Instr.sliceAt, Instr.slice, hx, Sem.run_bind, run_underlying hun, Result.andThen_ok, hb, Go.sizeOf, info_run hi', Sem.run_pure, hsi]
  refine ⟨_, _, hk, fun nx H2 hH2 => .value fun oo n0 d0 F c a w ho he hw => ?_⟩
  have hb2 : H2 b = some (.vec e2 sz v xs) := (hH2 b (by simp)).trans hb
  obtain ⟨hr, hu⟩ := he x (by simp [Op.operands])
  rw [hx] at hr hu
  obtain ⟨⟨ad, k, hxv⟩, hrr⟩ := hr
  obtain ⟨pp, hτ, hblk⟩ := hw.blk b _ hb2
  have hvv := (hrr _ _ hτ).2 rfl
  -- the capacity as the value has it
  have hkn : n ≤ k ∧ ∀ g cap, pp = some (g, cap) → k = cap - lo ∧ lo + n ≤ cap := by
    cases pp with
    | none =>
      obtain ⟨_, h2, h3⟩ := hvv
      rw [hxv] at h3; cases h3
      exact ⟨by omega, by simp⟩
    | some y =>
      obtain ⟨g, cap⟩ := y
      obtain ⟨o, h1, h2, h3⟩ := hvv
      rw [hxv] at h1; cases h1
      exact ⟨by omega, fun g' cap' e => by cases e; exact ⟨rfl, h3⟩⟩
  have hbd := bounds_run (P := P) (isS := true) (len := n) (cap := k) (m := k) (mx := none) (fun y hy => he y (hops y hy)) hp (hq.imp (fun ⟨a, b⟩ => ⟨a, b, rfl⟩) id) (.inl ⟨rfl, rfl⟩) c1 c2 (by omega) (Int.le_refl _)
  simp only [Int.toNat_natCast] at hbd
  refine ⟨by simpa [D.under] using hu, _, run oo a w ad n k _ _ _ ho hxv hbd, ⟨_, _, rfl⟩, fun ver' p' e => ?_⟩
  rw [hτ] at e; cases e
  refine ⟨Nat.le_refl _, fun _ => ?_⟩
  cases pp with
  | none =>
    obtain ⟨h1, h2, h3⟩ := hvv
    rw [hxv] at h3; cases h3
    have : p.toNat = 0 := by omega
    have : q.toNat = 0 := by omega
    exact ⟨by omega, by omega, by simp [*]⟩
  | some y =>
    obtain ⟨g, cap⟩ := y
    obtain ⟨hk1, hk2⟩ := hkn.2 g cap rfl
    obtain ⟨o, h1, h2, h3⟩ := hvv
    rw [hxv] at h1; cases h1
    by_cases hml : cap - lo = p.toNat
    · rw [if_pos hml]
      exact ⟨o, by congr 1; omega, fun hne => by omega, by omega⟩
    · rw [if_neg hml]
      refine ⟨o + p.toNat * sz, ?_, fun _ => ?_, by omega⟩
      · simp only [Option.map_some, add_none]; congr 1; omega
      · rw [h2 (by omega), Nat.add_mul]

theorem lenV_sound {P : Program} {T : Ty} (hT : TyOk P T) {t : TypeId} (x : Operand) {b ver sz lo n : Nat} {A : Tmps} (ht : ∃ e s b, (T t).d = .slice e s b) (hx : ev A x = .vec b ver sz lo n) (nx : Ids) (H : Heap) :
    OpOut P (.call { callee := .builtin .len, args := #[x], argTypes := #[t] }) A H nx (.p (.int .i64 (n : Int))) H nx := by
  obtain ⟨e, s, b', ht⟩ := ht
  have hu := (hT t).und
  rw [ht] at hu
  refine .value fun oo n0 d0 F c a w ho he hw => ?_
  obtain ⟨hr, _⟩ := he x (by simp [Op.operands, Call.operands])
  rw [hx] at hr
  obtain ⟨⟨ad, cap, hv⟩, _⟩ := hr
  refine ⟨rfl, .int .i64 n, builtin_run ho fun cs => ?_, .int _ _⟩
  simp [builtin, Builtin.len_, hv, run_underlying hu.1, goInt]
end Qa

namespace Qa
open Go

-- a literal that will be changed
def bsV (T : Ty) (t : TypeId) (len : Nat) (parts : List (Nat × Operand)) (A : Tmps) (H : Heap) (nx : Nat) (K : D → Heap → Nat → Fp → Prop) : Prop :=
  match (T t).d with
  | .slice e sz _ => match Nat.blt 0 sz && Nat.blt 0 len with
    | true => match Nat.beq parts.length len with
      | true => match Nat.ble (len * sz) 16777216 with
        | true => match ordP 0 parts with
          | some l => match pureAll (evL A l) with
            | some xs => needP (∀ x ∈ xs, x.cells.length = sz) (K (.vec nx 0 sz 0 len) (hset H nx (.vec e sz 0 xs)) (nx + 1) ⟨[], [nx]⟩)
            | none => stuckP "buildSlice: not pure"
          | none => stuckP "buildSlice: order"
        | false => stuckP "buildSlice: too long"
      | false => stuckP "buildSlice: parts"
    | false => stuckP "buildSlice: size"
  | _ => stuckP "buildSlice: type"

theorem bsV_sound {P : Program} {T : Ty} (hT : TyOk P T) {t : TypeId} {len : Nat} {parts : Array (Nat × Operand)} {A : Tmps} {H : Heap} {nb : Nat} {K : D → Heap → Nat → Fp → Prop} (h : bsV T t len parts.toList A H nb K) :
    ∃ d blk, K d (hset H nb blk) (nb + 1) ⟨[], [nb]⟩ ∧ ∀ (nx : Ids) (H2 : Heap), nx nb = false → OpOut P (.buildSlice t len parts) A H2 nx d (hset H2 nb blk) (iadd nx nb) := by
  unfold bsV at h
  split at h
  case h_2 => simp [stuckP] at h
  rename_i e sz by_ ht
  split at h
  case h_2 => simp [stuckP] at h
  rename_i h0
  simp only [Bool.and_eq_true] at h0
  have hl0 : 0 < len := by simpa using h0.2
  have h0 : 0 < sz := by simpa using h0.1
  split at h
  case h_2 => simp [stuckP] at h
  rename_i hlen
  have hlen := Nat.eq_of_beq_eq_true hlen
  split at h
  case h_2 => simp [stuckP] at h
  rename_i hle
  have hle := Nat.le_of_ble_eq_true hle
  split at h
  case h_2 => simp [stuckP] at h
  rename_i l hl
  split at h
  case h_2 => simp [stuckP] at h
  rename_i xs hxs
  simp only [needP_iff] at h
  obtain ⟨hsz, h⟩ := h
  have hu := (hT t).und
  rw [ht] at hu
  obtain ⟨hun, i, z, hi, hsi, hbi, hz, hzs⟩ := hu
  refine ⟨_, _, h, fun nx H2 hfr => .run (iadd_le _ _) fun oo n0 d0 F c a w ho he hw => ⟨by simp [D.under, iadd_self], ?_⟩⟩
  obtain ⟨hp1, hp2⟩ := ordP_spec a hl
  obtain ⟨h1, h2⟩ := RdL_evL (c := c) (w := w) (nx := nx) (A := A) (a := a) l fun x hx => he x (by
    rw [← hp1] at hx; simp [Op.operands]; simpa using hx)
  obtain ⟨hxl, hxr⟩ := pureAll_rp hxs h1
  have hll : l.length = len := by rw [← hp1]; simpa using hlen
  have hxlen : xs.length = len := by rw [hxl]; simpa using hll
  have hvs : ∀ v ∈ l.map a.eval, v.cells.size = i.size := fun v hv => by
    obtain ⟨j, hj⟩ := List.getElem?_of_mem hv
    have hjl := (List.getElem?_eq_some_iff.1 hj).1
    have hjx : xs[j]? = some (xs[j]'(by omega)) := List.getElem?_eq_getElem _
    rw [(hxr j _ v hjx hj).cells_len, hsi]
    exact hsz _ (List.getElem_mem _)
  have hi0 : 0 < i.size := by omega
  have hfill := Great.fill_whole hi0 (l.map a.eval) ((Array.range (len * i.size)).map (z.cells[· % z.cells.size]!)) hvs (by simp [hll])
  have hrun := run_buildSlice (P := P) w t e len (parts.map fun x => (x.1, a.eval x.2)) _ i z hun hi hz (by rw [hsi]; omega) (by
    intro h0'
    rcases Nat.mul_eq_zero.1 h0' with h | h <;> omega) (by
    have : (parts.map fun x => (x.1, a.eval x.2)).toList = ((l.map a.eval).zipIdx 0).map fun x => (x.2, x.1) := by rw [Array.toList_map]; exact hp2
    rw [this]; exact hfill)
  have hget : ∀ (k : Nat), ((l.map a.eval).flatMap fun v => v.cells.toList)[k]? = ((l.map a.eval)[k / sz]?).bind (fun v => v.cells[k % sz]?) := by
    have := Great.flat_get hi0 (l.map a.eval) hvs
    rw [hsi] at this; exact this
  have hflen : ((l.map a.eval).flatMap fun v => v.cells.toList).length = len * sz := by
    have : ∀ (vs : List Value), (∀ v ∈ vs, v.cells.size = i.size) → (vs.flatMap fun v => v.cells.toList).length = vs.length * sz := by
      intro vs
      induction vs with
      | nil => intro _; simp
      | cons v vs ih =>
        intro hv
        simp only [List.flatMap_cons, List.length_append, List.length_cons, Nat.add_mul, Nat.one_mul]
        rw [ih fun v hv' => hv v (by simp [hv'])]
        have := hv v (by simp)
        simp [this, hsi]; omega
    rw [this _ hvs]; simp [hll]
  have hcells : CellsOf c.K w sz xs ((l.map a.eval).flatMap fun v => v.cells.toList) := by
    refine ⟨hsz, by rw [hflen, hxlen], fun u hu => ?_, fun i' x j q hx hq => ?_⟩
    · obtain ⟨v, hv, huv⟩ := List.mem_flatMap.1 hu
      obtain ⟨j, hj⟩ := List.getElem?_of_mem hv
      have hjl := (List.getElem?_eq_some_iff.1 hj).1
      have hr := hxr j (xs[j]'(by omega)) v (List.getElem?_eq_getElem _) hj
      obtain ⟨k, hk⟩ := List.getElem?_of_mem huv
      have hkl := (List.getElem?_eq_some_iff.1 hk).1
      have hkl' : k < (xs[j]'(by omega)).cells.length := by rw [← hr.cells_len]; simpa using hkl
      obtain ⟨u', hu', ho1, _⟩ := hr.cell_get (List.getElem?_eq_getElem hkl')
      rw [Array.getElem?_toList] at hk
      rw [hk] at hu'; cases hu'
      exact ho1
    · have hxc : x.cells.length = sz := hsz x (List.mem_of_getElem? hx)
      have hj : j < sz := by rw [← hxc]; exact (List.getElem?_eq_some_iff.1 hq).1
      have hi' : i' < xs.length := (List.getElem?_eq_some_iff.1 hx).1
      have hv : (l.map a.eval)[i']? = some ((l.map a.eval)[i']'(by omega)) := List.getElem?_eq_getElem _
      obtain ⟨u, hu, ho1, hr⟩ := (hxr i' x _ hx hv).cell_get hq
      refine ⟨u, ?_, hr⟩
      rw [hget, show (i' * sz + j) / sz = i' by rw [Nat.mul_comm, Nat.mul_add_div h0, Nat.div_eq_of_lt hj, Nat.add_zero], show (i' * sz + j) % sz = j by rw [Nat.mul_comm, Nat.mul_add_mod, Nat.mod_eq_of_lt hj], hv]
      exact hu
  have hks : KStep c.K w c.K (w.alloc (.cells ((l.map a.eval).flatMap fun v => v.cells.toList).toArray e)) := KStep.alloc _ _ _
  have hml : len ≤ maxLen := by
    unfold maxLen
    have : len * 1 ≤ len * sz := Nat.mul_le_mul_left _ h0
    omega
  obtain ⟨g1, g2, g3⟩ := vt_put hw (b := nb) (g := w.heap.size) (cap := len) (ver := 0) (e := e) (sz := sz) (xs := xs) (cur := ((l.map a.eval).flatMap fun v => v.cells.toList).toArray) (nx' := iadd nx nb) (.inr ⟨hfr, rfl⟩) (.inl rfl)
    (fun hf => Nat.lt_irrefl _ (hw.fb _ hf)) (fun o hk => Nat.lt_irrefl _ (hw.kb _ _ hk)) (w.alloc (.cells ((l.map a.eval).flatMap fun v => v.cells.toList).toArray e)) (fun g' hg' => by
      by_cases hlt : g' < w.heap.size
      · exact heap_alloc_old w _ hlt
      · rw [Array.getElem?_eq_none (by simp; omega), Array.getElem?_eq_none (by omega)]) (by simp) (heap_alloc_new w _) (by
        have := (hcells.mono hks).vec (rest := [])
        simpa using this) hml (by simpa using hflen)
  refine ⟨.slice (some ⟨w.heap.size, 0, none⟩) len len, _, .inl ?_, _, ⟨⟨_, _, rfl⟩, fun ver' p e => ?_⟩, g1, g2, g3⟩
  · unfold execOp
    simp only [ho, Sem.run_bind, hrun, Result.andThen_ok, Sem.run_pure]
  · simp [Cx.vt] at e
    obtain ⟨rfl, rfl⟩ := e
    exact ⟨Nat.le_refl _, fun _ => ⟨0, by simp, fun _ => by simp, by omega⟩⟩

-- clear
def zeroPd (t : TI) : Option Pd :=
  match allPd t.zero with
  | some zs => match t.isAgg with
    | true => some (.agg zs)
    | false => match zs with
      | [z] => match z.one with | true => some z | false => none
      | _ => none
  | none => none

def clearV (T : Ty) (t b ver sz lo n : Nat) (H : Heap) (K : D → Heap → Fp → Prop) : Prop :=
  match (T t).d with
  | .slice e sz' _ => match Nat.beq sz sz' && (T e).good with
    | true => match zeroPd (T e) with
      | some z => match H b with
        | some (.vec e2 sz2 v xs) => match Nat.beq sz sz2 with
          | true => needP (v = ver ∧ lo + n ≤ xs.length) (K (.tup []) (hset H b (.vec e2 sz v (xs.take lo ++ List.replicate n z ++ xs.drop (lo + n)))) ⟨[], [b]⟩)
          | false => stuckP "clear"
        | _ => stuckP "clear"
      | none => stuckP "clear: zero"
    | false => stuckP "clear"
  | _ => stuckP "clear"
end Qa

namespace Qa
open Go

theorem CellsOf.drop {K : Nat → Nat → Prop} {w : World} {sz : Nat} {xs : List Pd} {us : List Value} (h : CellsOf K w sz xs us) (m : Nat) : CellsOf K w sz (xs.drop m) (us.drop (m * sz)) := by
  refine ⟨fun x hx => h.s x (List.mem_of_mem_drop hx), by simp [h.l, Nat.sub_mul], fun u hu => h.one u (List.mem_of_mem_drop hu), fun i x j q hx hq => ?_⟩
  rw [List.getElem?_drop] at hx
  obtain ⟨u, hu, hr⟩ := h.r _ x j q hx hq
  refine ⟨u, ?_, hr⟩
  rw [List.getElem?_drop, ← hu, Nat.add_mul, Nat.add_assoc]

theorem clearV_sound {P : Program} {T : Ty} (hT : TyOk P T) {t : TypeId} {x : Operand} {b ver sz lo n : Nat} {A : Tmps} {H : Heap} {K : D → Heap → Fp → Prop} (hx : ev A x = .vec b ver sz lo n) (h : clearV T t b ver sz lo n H K) :
    ∃ b blk, K (.tup []) (hset H b blk) ⟨[], [b]⟩ ∧ ∀ (nx : Ids) (H2 : Heap), H2 b = H b → OpOut P (.call { callee := .builtin .clear, args := #[x], argTypes := #[t] }) A H2 nx (.tup []) (hset H2 b blk) nx := by
  unfold clearV at h
  split at h
  case h_2 => simp [stuckP] at h
  rename_i e sz' by_ ht
  split at h
  case h_2 => simp [stuckP] at h
  rename_i hc
  simp only [Bool.and_eq_true] at hc
  have hs1 := Nat.eq_of_beq_eq_true hc.1
  subst hs1
  split at h
  case h_2 => simp [stuckP] at h
  rename_i zp hzp
  split at h
  case h_2 => simp [stuckP] at h
  rename_i e2 sz2 v xs hb
  split at h
  case h_2 => simp [stuckP] at h
  rename_i hs2
  have hs2 := Nat.eq_of_beq_eq_true hs2
  subst hs2
  simp only [needP_iff] at h
  obtain ⟨⟨rfl, hle⟩, hk⟩ := h
  have hu := (hT t).und
  rw [ht] at hu
  obtain ⟨hun, i, z, hi, hsi, hbi, hz, hzs⟩ := hu
  obtain ⟨f, z', hf, hfs, hz', hvz, hzl⟩ := (hT e).info (TI.good_ne hc.2)
  rw [hi] at hf; cases hf
  rw [hz] at hz'; cases hz'
  -- the zero element
  have hzc : zp.cells.map D.p = (T e).zero := by
    unfold zeroPd at hzp
    split at hzp
    case h_2 => cases hzp
    rename_i zs hzs'
    rw [allPd_eq hzs']
    split at hzp
    · cases hzp; rfl
    · split at hzp
      case h_2 => cases hzp
      rename_i z0
      split at hzp
      case h_2 => cases hzp
      rename_i h1
      cases hzp
      cases zp <;> first | rfl | simp [Pd.one] at h1
  have hzl' : zp.cells.length = sz := by
    have := congrArg List.length hzc
    simp at this
    rw [this, hzl, ← hfs, hsi]
  refine ⟨_, _, hk, fun nx H2 hH2 => .run (Ids.le.refl _) fun oo n0 d0 F c a w ho he hw => ⟨rfl, ?_⟩⟩
  have hb2 : H2 b = some (.vec e2 sz v xs) := hH2.trans hb
  obtain ⟨hr, _⟩ := he x (by simp [Op.operands, Call.operands])
  rw [hx] at hr
  by_cases hn : n = 0
  · subst hn
    obtain ⟨⟨ad, k, hxv⟩, _⟩ := hr
    have hsame : xs.take lo ++ List.replicate 0 zp ++ xs.drop (lo + 0) = xs := by simp
    rw [hsame, hset_self hb2]
    refine ⟨.tuple #[], w, .inl (builtin_run ho fun cs => ?_), c, ⟨[], rfl, trivial⟩, hw, Step.refl _ _ _, Later.refl _ _ _ _ _⟩
    cases ad <;> simp [builtin, Builtin.clear_, hxv, run_underlying hun]
  · obtain ⟨g, cap, o, cur, hτ, hxv, hoo, hlc, hg, hvr, hcm, hcs, hnF, hnK⟩ := vec_at hw hb2 hr (by omega)
    have hnn := hvr.n
    have hU := hvr.take (Nat.le_refl _)
    rw [List.take_length] at hU
    have hh1 : (lo + n) * sz ≤ xs.length * sz := Nat.mul_le_mul_right _ hle
    have hh0 : lo * sz + n * sz = (lo + n) * sz := (Nat.add_mul _ _ _).symm
    obtain ⟨hrz, hoz⟩ := vEqL_rd c w _ _ hvz
    have hzcs : z.cells.size = sz := hzs
    have hZ : CellsOf c.K w sz (List.replicate n zp) (Builtin.zeroCells z.cells n).toList := by
      have hget : ∀ t, t < n * sz → (Builtin.zeroCells z.cells n).toList[t]? = z.cells[t % sz]? := fun t ht => by
        have hsz : 0 < sz := by
          rcases Nat.eq_zero_or_pos sz with h | h
          · subst h; simp at ht
          · exact h
        have hlt : t % z.cells.size < z.cells.size := Nat.mod_lt _ (by omega)
        simp only [Builtin.zeroCells, Array.getElem?_toList, Array.getElem?_map, hzcs]
        rw [hzcs] at hlt
        have h2 : (Array.range (n * sz))[t]? = some t := by simp [ht]
        rw [h2]
        simp only [Option.map_some]
        rw [getElem!_pos z.cells (t % sz) (by omega), Array.getElem?_eq_getElem]
      refine ⟨fun x hx => by rw [(List.mem_replicate.1 hx).2]; exact hzl', by simp [size_zeroCells, hzcs], fun u hu => ?_, fun k y j q hy hq => ?_⟩
      · obtain ⟨t, ht⟩ := List.getElem?_of_mem hu
        have hlt := (List.getElem?_eq_some_iff.1 ht).1
        simp only [Array.length_toList, size_zeroCells, hzcs] at hlt
        rw [hget t hlt] at ht
        exact hoz u (by have := Array.mem_of_getElem? ht; simpa using this)
      · have hy' := List.mem_replicate.1 (List.mem_of_getElem? hy)
        have hkn : k < n := by have := (List.getElem?_eq_some_iff.1 hy).1; simpa using this
        rw [hy'.2] at hq
        have hj : j < sz := by rw [← hzl']; exact (List.getElem?_eq_some_iff.1 hq).1
        have hd : (T e).zero[j]? = some (.p q) := by rw [← hzc]; simp [hq]
        obtain ⟨u, hu, hru⟩ := RdL_get hrz hd
        refine ⟨u, ?_, hru⟩
        have : (k + 1) * sz ≤ n * sz := Nat.mul_le_mul_right _ hkn
        rw [Nat.add_mul, Nat.one_mul] at this
        rw [hget _ (by omega), Nat.mul_comm, Nat.mul_add_mod, Nat.mod_eq_of_lt hj]
        simpa using hu
    have hzlen : (Builtin.zeroCells z.cells n).toList.length = n * sz := by simp [size_zeroCells, hzcs]
    have hst := run_storeCells_at (P := P) g (lo * sz) e2 (Builtin.zeroCells z.cells n).toList 0 cur w hg (by rw [hzlen]; simp; omega) hZ.one
    generalize hcur' : (cur.toList.take (lo * sz) ++ (Builtin.zeroCells z.cells n).toList ++ cur.toList.drop (lo * sz + n * sz)).toArray = cur'
    have hsize : cur'.size = cur.size := by
      subst hcur'
      simp only [List.size_toArray, List.length_append, hzlen, List.length_take, List.length_drop, Array.length_toList]
      omega
    have hks : KStep c.K w c.K (w.setRow g cur') := fun g' o hk => ⟨hk, fun u hu => by
      have hne : g' ≠ g := fun e => hnK o (e ▸ hk)
      rw [World.cell?_of_block (w := w) (setRow_other w _ _ _ hne)]; exact hu⟩
    have hvr' : VecRel c.K (w.setRow g cur') sz (xs.take lo ++ List.replicate n zp ++ xs.drop (lo + n)) cur' := by
      have h1 := (((hvr.take (n := lo) (by omega)).append hZ).append (hU.drop (lo + n))).mono hks
      have h2 := h1.vec (rest := cur.toList.drop (xs.length * sz))
      have h3 : cur.toList.take (lo * sz) ++ (Builtin.zeroCells z.cells n).toList ++ (cur.toList.take (xs.length * sz)).drop ((lo + n) * sz) ++ cur.toList.drop (xs.length * sz) =
          cur.toList.take (lo * sz) ++ (Builtin.zeroCells z.cells n).toList ++ cur.toList.drop (lo * sz + n * sz) := by
        rw [hh0, List.append_assoc _ _ (cur.toList.drop (xs.length * sz))]
        congr 1
        rw [← List.drop_append_of_le_length (by simp; omega), List.take_append_drop]
      rw [h3, hcur'] at h2
      exact h2
    obtain ⟨hw', hs, hla⟩ := hw.row (k' := .vec e2 sz v (xs.take lo ++ List.replicate n zp ++ xs.drop (lo + n))) hb2 (g := g) (by simp [place, hτ]) hnK (w.setRow g cur') (fun g' hg' => setRow_other w _ _ _ hg') (by simp [World.setRow])
      ⟨_, hτ, cur', setRow_heap w g _ _ e2 _ hg, hvr', hcm, by rw [hsize]; exact hcs, hnF, hnK⟩ (by simp [place, hτ]) rfl
    refine ⟨.tuple #[], _, .inl (builtin_run ho fun cs => ?_), c, ⟨[], rfl, trivial⟩, hw', hs, hla⟩
    have hst' : (storeCells ⟨g, o, none⟩ (Builtin.zeroCells z.cells n).toList).run P w = .ok () (w.setRow g cur') := by
      simp only [Nat.add_zero] at hst
      rw [hoo, hst, ← hcur', hzlen]
    have hnz : n ≠ 0 := hn
    simp [builtin, Builtin.clear_, hxv, run_underlying hun, zeroValue, info_run hi, hz, hst']
end Qa

namespace Qa
open Go

def Pd.kd : Pd → Nat
  | .int _ _ => 0
  | .bool _ => 1
  | .str _ => 2
  | _ => 3

def fitF (P : Program) : List Field → Nat → List Nat → Bool
  | [], _, [] => true
  | f :: fs, o, k :: ks => (f.name != "_") && Nat.beq f.offset o && (match P.underlying f.type with | some (.int _) => Nat.beq k 0 | some .bool => Nat.beq k 1 | some .string => Nat.beq k 2 | _ => false) && fitF P fs (o + 1) ks
  | _, _, _ => false

/-- a struct of plain fields, one cell each. -/
def eqOk (P : Program) (t : TypeId) (ks : List Nat) : Bool :=
  !P.stoodInHeld t && !P.eqGuardType P.depth t && (match P.underlying t with | some (.struct fs) => fitF P fs.toList 0 ks | _ => false)

def eqL : List Pd → List Pd → Option Bool
  | [], [] => some true
  | .int k a :: r, .int k' b :: s => match kEq k k' with
    | true => match eqL r s with | some c => some (a == b && c) | none => none
    | false => none
  | .bool a :: r, .bool b :: s => match eqL r s with | some c => some (a == b && c) | none => none
  | .str a :: r, .str b :: s => match eqL r s with | some c => some (a.toList == b.toList && c) | none => none
  | _, _ => none

def binAgg (P : Program) (t : TypeId) (op : BinOp) (as : List Pd) (y : D) (K : D → Prop) : Prop :=
  match y with
  | .p (.agg bs) => match eqL as bs with
    | some c => needP (eqOk P t (as.map Pd.kd) = true) (match op with
      | .eql => K (.p (.bool c))
      | .neq => K (.p (.bool (!c)))
      | _ => stuckP "binop: structs")
    | none => stuckP "binop: structs"
  | _ => stuckP "binop: structs"

theorem part_run {P : Program} {t : TypeId} {d : TypeDesc} (h : P.underlying t = some d) (ha : aggDesc d = false) (cs : Array Value) (o : Nat) {v : Value} (hv : cs[o]? = some v) (w : World) : (part t cs o).run P w = .ok v w := by
  obtain ⟨hlt, rfl⟩ := Array.getElem?_eq_some_iff.1 hv
  simp [part, isAgg_run h, ha, hlt]

theorem eqFields_run {P : Program} {c : Cx} {w : World} {us vs : Array Value} (d : Nat) : ∀ (fs : List Field) (o : Nat) (as bs : List Pd) (r : Bool), fitF P fs o (as.map Pd.kd) = true → eqL as bs = some r →
    (∀ (j : Nat) (x : Pd), as[j]? = some x → ∃ u, us[o + j]? = some u ∧ Rp c.K w x u) → (∀ (j : Nat) (x : Pd), bs[j]? = some x → ∃ u, vs[o + j]? = some u ∧ Rp c.K w x u) →
    (Op.eqFields (d + 1) us vs fs).run P w = .ok r w := by
  intro fs
  induction fs with
  | nil =>
    intro o as bs r hf he _ _
    cases as with
    | cons x xs => simp [fitF] at hf
    | nil =>
      cases bs with
      | nil => simp [eqL] at he; subst he; simp [Op.eqFields]
      | cons y ys => simp [eqL] at he
  | cons f fs ih =>
    intro o as bs r hf he ha hb
    cases as with
    | nil => simp [fitF] at hf
    | cons x xs =>
      simp only [List.map_cons, fitF, Bool.and_eq_true, bne_iff_ne, ne_eq] at hf
      obtain ⟨⟨⟨hn, ho⟩, hk⟩, hr⟩ := hf
      have ho := Nat.eq_of_beq_eq_true ho
      cases bs with
      | nil => cases x <;> simp [eqL] at he
      | cons y ys =>
        obtain ⟨u, hu, hru⟩ := ha 0 x rfl
        obtain ⟨v, hv, hrv⟩ := hb 0 y rfl
        have ih' : ∀ r', eqL xs ys = some r' → (Op.eqFields (d + 1) us vs fs).run P w = .ok r' w := fun r' he' =>
          ih (o + 1) xs ys r' hr he' (fun j x hx => by
            obtain ⟨u, h1, h2⟩ := ha (j + 1) x (by simpa using hx)
            exact ⟨u, by rw [show o + 1 + j = o + (j + 1) by omega]; exact h1, h2⟩) (fun j x hx => by
            obtain ⟨u, h1, h2⟩ := hb (j + 1) x (by simpa using hx)
            exact ⟨u, by rw [show o + 1 + j = o + (j + 1) by omega]; exact h1, h2⟩)
        have fin : ∀ (td : TypeDesc) (b1 r' : Bool), P.underlying f.type = some td → aggDesc td = false → (Op.equalIn (d + 1) f.type u v).run P w = .ok b1 w → eqL xs ys = some r' → r = (b1 && r') →
            (Op.eqFields (d + 1) us vs (f :: fs)).run P w = .ok r w := by
          intro td b1 r' h1 h2 h3 h4 h5
          have p1 := part_run h1 h2 us f.offset (by rw [ho]; simpa using hu) w
          have p2 := part_run h1 h2 vs f.offset (by rw [ho]; simpa using hv) w
          simp only [Op.eqFields, if_pos hn, Sem.run_bind, p1, p2, h3, Result.andThen_ok, Sem.run_ite]
          subst h5
          cases b1
          · simp
          · simp [ih' r' h4]
        cases x with
        | int k a =>
          cases y with
          | int k' b =>
            simp only [eqL] at he
            split at he
            case h_2 => cases he
            rename_i hkk
            have hkk := kEq_eq hkk
            subst hkk
            split at he
            case h_2 => cases he
            rename_i r' hr'
            cases he
            have e1 := Rp.int_inv hru
            have e2 := Rp.int_inv hrv
            subst e1
            subst e2
            split at hk
            · rename_i k2 hu2
              exact fin _ (a == b) r' hu2 rfl (run_equalIn_int w d f.type k k2 a b hu2) hr' rfl
            · simp [Pd.kd] at hk
            · simp [Pd.kd] at hk
            · cases hk
          | _ => simp [eqL] at he
        | bool a =>
          cases y with
          | bool b =>
            simp only [eqL] at he
            split at he
            case h_2 => cases he
            rename_i r' hr'
            cases he
            have e1 := Rp.bool_inv hru
            have e2 := Rp.bool_inv hrv
            subst e1
            subst e2
            split at hk
            · simp [Pd.kd] at hk
            · rename_i hu2
              exact fin _ (a == b) r' hu2 rfl (run_equalIn_bool' w d f.type a b hu2) hr' rfl
            · simp [Pd.kd] at hk
            · cases hk
          | _ => simp [eqL] at he
        | str a =>
          cases y with
          | str b =>
            simp only [eqL] at he
            split at he
            case h_2 => cases he
            rename_i r' hr'
            cases he
            have e1 := Rp.str_inv hru
            have e2 := Rp.str_inv hrv
            subst e1
            subst e2
            split at hk
            · simp [Pd.kd] at hk
            · simp [Pd.kd] at hk
            · rename_i hu2
              exact fin _ (a.toList == b.toList) r' hu2 rfl (run_equalIn_string w d f.type a b hu2) hr' rfl
            · cases hk
          | _ => simp [eqL] at he
        | list l => simp [eqL] at he
        | agg l => simp [eqL] at he

theorem binAgg_sound {P : Program} {op : BinOp} {t ty : TypeId} {x y : Operand} {as : List Pd} {A : Tmps} {K : D → Prop} (hx : ev A x = .p (.agg as)) (h : binAgg P t op as (ev A y) K) :
    ∃ d, K d ∧ ∀ (nx : Ids) (H : Heap), OpOut P (.binOp op t x y ty) A H nx d H nx := by
  unfold binAgg at h
  split at h
  case h_2 => simp [stuckP] at h
  rename_i bs hy
  split at h
  case h_2 => simp [stuckP] at h
  rename_i r hr
  simp only [needP_iff] at h
  obtain ⟨hok, h⟩ := h
  simp only [eqOk, Bool.and_eq_true, Bool.not_eq_true'] at hok
  obtain ⟨⟨h1, h2⟩, h3⟩ := hok
  split at h3
  case h_2 => cases h3
  rename_i fs hu
  have hfo : P.fieldsOf t = fs := by simp [Program.fieldsOf, hu]
  have key : ∀ (c : Cx) (a : Act) (w : World), Rd c w (.p (.agg as)) (a.eval x) → Rd c w (.p (.agg bs)) (a.eval y) → ∃ us vs : Array Value, a.eval x = .agg us ∧ a.eval y = .agg vs ∧ (Op.equalIn 10000 t (.agg us) (.agg vs)).run P w = .ok r w := by
    intro c a w hrx hry
    generalize a.eval x = xv at hrx
    generalize a.eval y = yv at hry
    cases hrx with
    | agg _ us hl g1 g2 =>
      cases hry with
      | agg _ vs hl' g1' g2' =>
        refine ⟨us.toArray, vs.toArray, rfl, rfl, ?_⟩
        rw [run_equalIn_struct w 9999 t us.toArray vs.toArray (by rw [hfo]; exact hu) h1, hfo]
        refine eqFields_run (c := c) 9998 fs.toList 0 as bs r h3 hr (fun j x hx => ?_) fun j x hx => ?_
        · have hlt : j < us.length := by rw [← hl]; exact (List.getElem?_eq_some_iff.1 hx).1
          exact ⟨us[j], by simp [hlt], g2 j x _ hx (List.getElem?_eq_getElem hlt)⟩
        · have hlt : j < vs.length := by rw [← hl']; exact (List.getElem?_eq_some_iff.1 hx).1
          exact ⟨vs[j], by simp [hlt], g2' j x _ hx (List.getElem?_eq_getElem hlt)⟩
  have run : ∀ (oo : Oper) (c : Cx) (a : Act) (w : World) (b : Bool), oo.op = .binOp op t x y ty → Rd c w (.p (.agg as)) (a.eval x) → Rd c w (.p (.agg bs)) (a.eval y) → (∀ us vs : Array Value, (Op.equalIn 10000 t (.agg us) (.agg vs)).run P w = .ok r w → (binOp op t (.agg us) (.agg vs)).run P w = .ok (.bool b) w) →
      (execOp a.eval oo).run P w = .ok (.value (.bool b)) w := by
    intro oo c a w b ho hrx hry hb
    obtain ⟨us, vs, e1, e2, e3⟩ := key c a w hrx hry
    unfold execOp
    simp only [ho, e1, e2, Sem.run_bind, run_eqGuard_agg w op t x y us vs h2, Result.andThen_ok, hb us vs e3, Sem.run_pure]
  split at h
  · refine ⟨_, h, fun nx H => .value fun oo n0 d0 F c a w ho he hw => ?_⟩
    obtain ⟨hrx, _⟩ := he x (by simp [Op.operands])
    obtain ⟨hry, _⟩ := he y (by simp [Op.operands])
    rw [hx] at hrx
    rw [hy] at hry
    exact ⟨rfl, .bool r, run oo c a w r ho hrx hry fun us vs e => by rw [run_eql_struct, e]; rfl, .bool _⟩
  · refine ⟨_, h, fun nx H => .value fun oo n0 d0 F c a w ho he hw => ?_⟩
    obtain ⟨hrx, _⟩ := he x (by simp [Op.operands])
    obtain ⟨hry, _⟩ := he y (by simp [Op.operands])
    rw [hx] at hrx
    rw [hy] at hry
    exact ⟨rfl, .bool (!r), run oo c a w (!r) ho hrx hry fun us vs e => by rw [run_neq_struct, e]; rfl, .bool _⟩
  · simp [stuckP] at h
end Qa

namespace Qa
open Go

theorem acc_fresh {n0 : Nat} {d0 F : Nat → Prop} {H : Heap} {nx : Ids} {c : Cx} {w : World} (hw : WRel n0 d0 H nx c F w) {b e sz cap : Nat} {zs : List Pd} {us rest : List Value} (hb : nx b = false)
    (hc : CellsOf c.K w sz zs us) (hle : zs.length ≤ cap) (hcap : cap ≤ maxLen) (hl : (us ++ rest).length = cap * sz) :
    Rd (c.tok b zs.length w.heap.size cap sz) (w.drew.alloc (.cells (us ++ rest).toArray e)) (.acc b zs) (.slice (some ⟨w.heap.size, 0, none⟩) zs.length cap) ∧
      WRel n0 d0 (hset H b (.tok e sz zs.length)) (iadd nx b) (c.tok b zs.length w.heap.size cap sz) F (w.drew.alloc (.cells (us ++ rest).toArray e)) ∧ Step nx c w (c.tok b zs.length w.heap.size cap sz) (w.drew.alloc (.cells (us ++ rest).toArray e)) ∧
      Later n0 d0 F c w (c.tok b zs.length w.heap.size cap sz) (w.drew.alloc (.cells (us ++ rest).toArray e)) := by
  obtain ⟨a1, a2, a3⟩ := tok_new hw (b := b) (e := e) (sz := sz) (n := zs.length) (cap := cap) (nx' := iadd nx b) (cur := (us ++ rest).toArray) (.inr ⟨hb, rfl⟩) hle hcap (by simpa using hl)
  refine ⟨⟨?_, fun n p he => ?_⟩, a1, a2, a3⟩
  · refine Rp.mkList (us := us) hle hc.s (fun t u hu => ?_) fun i y j q hiy hjq => ?_
    · have htl : t < zs.length * sz := by rw [← hc.l]; exact (List.getElem?_eq_some_iff.1 hu).1
      refine ⟨.inr ⟨rfl, htl⟩, ?_, hc.one u (List.mem_of_getElem? hu)⟩
      have hnew : (w.drew.alloc (.cells (us ++ rest).toArray e)).heap[w.heap.size]? = some (.cells (us ++ rest).toArray e (0, 0)) := heap_alloc_new w.drew _
      rw [cell_of_row _ _ t _ _ _ hnew]
      simp only [List.getElem?_toArray]
      rw [List.getElem?_append_left (List.getElem?_eq_some_iff.1 hu).1]; exact hu
    · obtain ⟨u, hu, hr⟩ := hc.r i y j q hiy hjq
      exact ⟨u, hu, hr.mono a2.k⟩
  · simp [Cx.tok] at he
    obtain ⟨rfl, rfl⟩ := he
    exact ⟨Nat.le_refl _, fun _ => by simp [tokVal]⟩

/-- append to a slice without room: a new array. -/
def fullA (T : Ty) (t t2 : Nat) (xs : List Pd) (x : D) (H : Heap) (nx : Nat) (K : D → Heap → Nat → Fp → Prop) : Prop :=
  match Nat.beq t t2 with
  | true => match (T t).d with
    | .slice e sz by_ => match Nat.blt 0 sz && Nat.blt 0 by_ with
      | true => srcK x sz H fun ys fp => needP (ys ≠ [] ∧ (∀ z ∈ xs, z.cells.length = sz) ∧ (∀ z ∈ ys, z.cells.length = sz) ∧ (xs.length + ys.length) * by_ ≤ 140737488355328)
          (K (.acc nx (xs ++ ys)) (hset H nx (.tok e sz (xs ++ ys).length)) (nx + 1) ⟨fp.r, [nx]⟩)
      | false => stuckP "append: size"
    | _ => stuckP "append: type"
  | false => stuckP "append: types"

theorem fullA_sound {P : Program} {T : Ty} (hT : TyOk P T) {t t2 : TypeId} {s x : Operand} {xs : List Pd} {A : Tmps} {H : Heap} {nb : Nat} {K : D → Heap → Nat → Fp → Prop} (hs : ev A s = .full xs)
    (h : fullA T t t2 xs (ev A x) H nb K) : ∃ d blk fp, K d (hset H nb blk) (nb + 1) fp ∧ fp.w = [nb] ∧ ∀ (nx : Ids) (H2 : Heap), (∀ b ∈ fp.r, H2 b = H b) → nx nb = false →
      OpOut P (.call { callee := .builtin .append, args := #[s, x], argTypes := #[t, t2] }) A H2 nx d (hset H2 nb blk) (iadd nx nb) := by
  unfold fullA at h
  split at h
  case h_2 => simp [stuckP] at h
  rename_i htt
  have htt := Nat.eq_of_beq_eq_true htt
  subst htt
  split at h
  case h_2 => simp [stuckP] at h
  rename_i e sz by_ ht
  split at h
  case h_2 => simp [stuckP] at h
  rename_i hc
  simp only [Bool.and_eq_true] at hc
  have h0 : 0 < sz := by simpa using hc.1
  have hb0 : 0 < by_ := by simpa using hc.2
  obtain ⟨ys, fp, h, hfp, hsrc⟩ := srcK_sound h0 h
  simp only [needP_iff] at h
  obtain ⟨⟨hne, hxs, hys, hby⟩, hk⟩ := h
  refine ⟨_, _, _, hk, rfl, fun nx H2 hH2 hfr => .run (iadd_le _ _) fun oo n0 d0 F c a w ho he hw => ⟨by simp [D.under, iadd_self], ?_⟩⟩
  obtain ⟨hrs, _⟩ := he s (by simp [Op.operands, Call.operands])
  obtain ⟨hrx, _⟩ := he x (by simp [Op.operands, Call.operands])
  rw [hs] at hrs
  obtain ⟨hrs, ad, hv⟩ := hrs
  obtain ⟨gx, ox, capx, us, hxv, hul, huc, hur⟩ := (hsrc hH2 hw hrx hne hys).ex
  have hu := (hT t).und
  rw [ht] at hu
  obtain ⟨hun, i, z, hi, hsi, hbi, hz, hzs⟩ := hu
  have hml : xs.length + ys.length ≤ 140737488355328 := Nat.le_trans (Nat.le_mul_of_pos_right _ hb0) hby
  have hmax : xs.length + ys.length ≤ maxLen := by unfold maxLen; omega
  have hpos : 0 < ys.length := List.length_pos_iff.2 hne
  have hul' : us.length = ys.length * i.size := by rw [hsi]; exact hul
  have hnews : ∀ j u, us[j]? = some u → w.cell? ((⟨gx, ox, none⟩ : Addr).add j) = some u := fun j u hj => by rw [add_none]; exact (huc j u hj).1
  have hcy : CellsOf c.K w sz ys us := ⟨hys, hul, fun u hu => by
    obtain ⟨j, hj⟩ := List.getElem?_of_mem hu
    exact (huc j u hj).2, hur⟩
  have hgm : ∀ k, grownCap w (xs.length + ys.length) k e ≤ maxLen := fun k => grownCap_le_maxLen w (xs.length + ys.length) k e hmax
  rcases hrs.cellsOf hxs h0 with ⟨⟨ab, hsv⟩, hxn⟩ | ⟨gs, os, caps, xc, hsv, hxl, _, hxc, hxr⟩
  · subst hxn
    have hr := fun ty => run_append_nila (P := P) w t ty e i z hun hi hz ab ⟨gx, ox, none⟩ ys.length capx us hul' hnews hpos (by omega) (by rw [hbi]; simp at hby; omega)
    have hge := grownCap_ge w ys.length 0 e
    obtain ⟨h1, h2, h3, h4⟩ := acc_fresh hw (b := nb) (e := e) (cap := grownCap w ys.length 0 e) (rest := (Builtin.zeroCells z.cells (grownCap w ys.length 0 e - ys.length)).toList) hfr hcy hge (by simpa using hgm 0)
      (by simp only [List.length_append, Array.length_toList, size_zeroCells, hzs, hul, ← Nat.add_mul]; congr 1; omega)
    refine ⟨_, _, .inl (execOp_append ho (fun ty => ?_) rfl), _, by simpa using h1, by simpa using h2, h3, h4⟩
    rw [hsv, hxv, hr]
    have e1 : us.toArray ++ Builtin.zeroCells z.cells (grownCap w ys.length 0 e - ys.length) = (us ++ (Builtin.zeroCells z.cells (grownCap w ys.length 0 e - ys.length)).toList).toArray := by
      apply Array.toList_inj.1; simp
    rw [e1]
  · rw [hsv] at hv
    cases hv
    have hr := fun ty => run_append_grow (P := P) w t ty e i z hun hi hz ⟨gs, os, none⟩ xs.length xs.length xc (by rw [hsi]; exact hxl) (fun j u hj => by rw [add_none]; exact (hxc j u hj).2.1) ⟨gx, ox, none⟩ ys.length capx us hul' hnews
          (by omega) (by omega) (growslice_fits (by omega) (by rw [hbi]; exact hby))
    have hcx : CellsOf c.K w sz xs xc := ⟨hxs, hxl, fun u hu => by
      obtain ⟨j, hj⟩ := List.getElem?_of_mem hu
      exact (hxc j u hj).2.2, hxr⟩
    have hge := grownCap_ge w (xs.length + ys.length) xs.length e
    obtain ⟨h1, h2, h3, h4⟩ := acc_fresh hw (b := nb) (e := e) (cap := grownCap w (xs.length + ys.length) xs.length e) (rest := (Builtin.zeroCells z.cells (grownCap w (xs.length + ys.length) xs.length e - (xs.length + ys.length))).toList) hfr
      (hcx.append hcy) (by simpa using hge) (hgm _) (by simp only [List.length_append, Array.length_toList, size_zeroCells, hzs, hul, hxl, ← Nat.add_mul]; congr 1; omega)
    refine ⟨_, _, .inl (execOp_append ho (fun ty => ?_) rfl), _, h1, h2, h3, h4⟩
    rw [hsv, hxv, hr]
    have e1 : xc.toArray ++ us.toArray ++ Builtin.zeroCells z.cells (grownCap w (xs.length + ys.length) xs.length e - (xs.length + ys.length)) =
        (xc ++ us ++ (Builtin.zeroCells z.cells (grownCap w (xs.length + ys.length) xs.length e - (xs.length + ys.length))).toList).toArray := by
      apply Array.toList_inj.1; simp
    rw [e1, List.length_append]
end Qa

namespace Qa
open Go

def descOf : TD → Option TypeDesc
  | .int k => some (.int k)
  | .bool => some .bool
  | .str => some .string
  | _ => none
def tdEq : TD → TD → Bool
  | .int a, .int b => kEq a b
  | .bool, .bool => true
  | .str, .str => true
  | _, _ => false
theorem tdEq_eq {a b : TD} (h : tdEq a b = true) : a = b := by
  cases a <;> cases b <;> simp [tdEq] at h
  · rw [kEq_eq h]
  · rfl
  · rfl

open Go.MapKept in
theorem keyOk_spec {K : Nat → Nat → Prop} {w : World} {kd : TD} {q : Pd} {v : Value} (h : keyOk kd q = true) (hr : Rp K w q v) : ∃ d, descOf kd = some d ∧ IsKey d v := by
  cases kd <;> cases q <;> simp [keyOk] at h
  · rename_i k n
    have e := kEq_eq h
    subst e
    cases hr
    exact ⟨_, rfl, by simp [IsKey]⟩
  · cases hr; exact ⟨_, rfl, by simp [IsKey]⟩
  · cases hr; exact ⟨_, rfl, by simp [IsKey]⟩

theorem key_inj {K : Nat → Nat → Prop} {w : World} {kd : TD} {q k : Pd} {v : Value} (hq : keyOk kd q = true) (hk : keyOk kd k = true) (hr : Rp K w q v) (hu : Rp K w k v) : q = k := by
  cases kd <;> cases q <;> simp [keyOk] at hq <;> cases k <;> simp [keyOk] at hk <;> cases hr <;> cases hu <;> rfl
theorem key_val {K : Nat → Nat → Prop} {w : World} {kd : TD} {q : Pd} {v u : Value} (hq : keyOk kd q = true) (hr : Rp K w q v) (hu : Rp K w q u) : v = u := by
  cases kd <;> cases q <;> simp [keyOk] at hq <;> cases hr <;> cases hu <;> rfl

theorem und_key {P : Program} {T : Ty} (hT : TyOk P T) {t : TypeId} {d : TypeDesc} (h : descOf (T t).d = some d) : P.underlying t = some d := by
  have hu := (hT t).und
  cases hd : (T t).d <;> rw [hd] at h hu <;> simp [descOf] at h
  · subst h; exact hu
  · subst h; exact hu
  · subst h; exact hu

structure lookP (m : MapF) (q z : Pd) (K : Pd → Prop) : Prop where
  out : K ((m q).getD z)
structure lookOkP (m : MapF) (q z : Pd) (K : Pd → Bool → Prop) : Prop where
  out : K ((m q).getD z) (m q).isSome
theorem lookP_intro {m : MapF} {q z : Pd} {K : Pd → Prop} (x : Pd) (h : (m q).getD z = x) (k : K x) : lookP m q z K := ⟨by rw [h]; exact k⟩
theorem lookOkP_intro {m : MapF} {q z : Pd} {K : Pd → Bool → Prop} (x : Pd) (b : Bool) (h : (m q).getD z = x) (hb : (m q).isSome = b) (k : K x b) : lookOkP m q z K := ⟨by rw [h, hb]; exact k⟩

def makeMapK (T : Ty) (t : TypeId) (H : Heap) (nx : Nat) (K : D → Heap → Nat → Fp → Prop) : Prop :=
  match (T t).d with
  | .map kt _ => K (.map nx) (hset H nx (.map (T kt).d mnil)) (nx + 1) ⟨[], [nx]⟩
  | _ => stuckP "makeMap"

def D.mapv : D → Option Pd
  | .p x => some x
  | .nilsl => some (.list [])
  | _ => none
theorem mapv_rp {c : Cx} {w : World} {d : D} {x : Pd} {v : Value} (h : d.mapv = some x) (hr : Rd c w d v) : Rp c.K w x v := by
  unfold D.mapv at h
  split at h
  · cases h; exact hr
  · cases h; have : v = Value.slice none 0 0 := hr; subst this; exact .nil
  · cases h

def updMapK (T : Ty) (t : TypeId) (m k v : D) (H : Heap) (K : Heap → Fp → Prop) : Prop :=
  match (T t).d with
  | .map kt _ => match m with
    | .map b => match H b with
      | some (.map kd f) => match k with
        | .p q => match tdEq kd (T kt).d && keyOk kd q with
          | true => match v.mapv with
            | some y => K (hset H b (.map kd (mput f q y))) ⟨[], [b]⟩
            | none => stuckP "mapUpdate: value"
          | false => stuckP "mapUpdate: key's type"
        | _ => stuckP "mapUpdate: key"
      | _ => stuckP "mapUpdate: block"
    | _ => stuckP "mapUpdate: map"
  | _ => stuckP "mapUpdate: type"

def lookMapK (T : Ty) (t : TypeId) (m k : D) (ok : Bool) (H : Heap) (K : D → Fp → Prop) : Prop :=
  match (T t).d with
  | .map kt et => match (T et).good with
    | true => match zeroPd (T et) with
      | some z => match m with
        | .map b => match H b with
          | some (.map kd f) => match k with
            | .p q => match tdEq kd (T kt).d && keyOk kd q with
              | true => match ok with
                | false => lookP f q z fun x => K (.p x) ⟨[b], []⟩
                | true => lookOkP f q z fun x y => K (.tup [.p x, .p (.bool y)]) ⟨[b], []⟩
              | false => stuckP "lookup: key's type"
            | _ => stuckP "lookup: key"
          | _ => stuckP "lookup: block"
        | _ => stuckP "lookup: map"
      | none => stuckP "lookup: zero"
    | false => stuckP "lookup: zero"
  | _ => stuckP "lookup: type"

theorem WRel.allocMap {n0 d0 H nx c F w} (h : WRel n0 d0 H nx c F w) (kd : TD) (nb : Nat) (hnb : nx nb = false) :
    WRel n0 d0 (hset H nb (.map kd mnil)) (iadd nx nb) (c.bind nb w.heap.size) F (w.alloc (.map #[] 0)) ∧
    Step nx c w (c.bind nb w.heap.size) (w.alloc (.map #[] 0)) ∧ Later n0 d0 F c w (c.bind nb w.heap.size) (w.alloc (.map #[] 0)) := by
  have hs : Step nx c w (c.bind nb w.heap.size) (w.alloc (.map #[] 0)) := Step.bind nx nb hnb c w _ _ (KStep.alloc _ _ _)
  have hold : ∀ b k, H b = some k → place (c.bind nb w.heap.size) b k = place c b k := fun b k hb => by
    have := ne_of_ids (h.bh b k hb).1 hnb
    exact place_mono (by simp [Cx.bind, this]) (by simp [Cx.bind, this])
  have hn0 : n0 ≤ nb := by
    rcases Nat.lt_or_ge nb n0 with hlt | hge
    · exact absurd rfl (ne_of_ids (h.n0 nb hlt) hnb)
    · exact hge
  have hbn : (c.bind nb w.heap.size).ρ nb = w.heap.size := by simp [Cx.bind]
  refine ⟨⟨fun b k hb => ?_, fun b b' k k' g hb hb' hp hp' => ?_, fun b k hb => ?_, fun b k hb hlt => ?_, fun b hb => iadd_le nx nb b (h.n0 b hb), fun g o hk => ?_, fun g hg => ?_⟩, hs, hs.le fun b hb => h.n0 b (below_iff.1 hb),
    fun g hg => heap_alloc_old w _ (h.fb g hg), fun g o hk => .inl hk, by simp, fun b hb hd => ?_, ⟨rfl, rfl, rfl, by first | exact Nat.le_refl _ | exact Nat.le_succ _⟩⟩
  · rcases hset_some hb with ⟨rfl, rfl⟩ | ⟨hne, hb⟩
    · refine ⟨#[], 0, by rw [hbn]; exact heap_alloc_new w _, ⟨by simp, fun k x _ h => by simp [mnil] at h, by simp, by simp, by simp⟩, ?_, ?_⟩
      · rw [hbn]; exact fun hf => Nat.lt_irrefl _ (h.fb _ hf)
      · rw [hbn]; exact fun o hk => Nat.lt_irrefl _ (h.kb _ o hk)
    · obtain ⟨hlt, hun⟩ := h.bh b k hb
      have := ne_of_ids hlt hnb
      exact (h.blk b k hb).mono hs hlt hun (fun g hp => heap_alloc_old w _ ((h.blk b k hb).place_lt hp).1) (fun _ _ _ hk => hk) (by simp [Cx.bind, this])
  · rcases hset_some hb with ⟨rfl, rfl⟩ | ⟨hne, hb0⟩ <;> rcases hset_some hb' with ⟨rfl, rfl⟩ | ⟨hne', hb0'⟩
    · rfl
    · simp only [place, hbn] at hp
      cases hp
      rw [hold _ _ hb0'] at hp'
      exact absurd ((h.blk _ _ hb0').place_lt hp').1 (Nat.lt_irrefl _)
    · simp only [place, hbn] at hp'
      cases hp'
      rw [hold _ _ hb0] at hp
      exact absurd ((h.blk _ _ hb0).place_lt hp).1 (Nat.lt_irrefl _)
    · rw [hold _ _ hb0] at hp
      rw [hold _ _ hb0'] at hp'
      exact h.inj b b' k k' g hb0 hb0' hp hp'
  · rcases hset_some hb with ⟨rfl, rfl⟩ | ⟨hne, hb⟩
    · exact ⟨iadd_self _ _, rfl⟩
    · exact ⟨iadd_le _ _ _ (h.bh b k hb).1, Blk.under_le (iadd_le _ _) k (h.bh b k hb).2⟩
  · rcases hset_some hb with ⟨rfl, rfl⟩ | ⟨hne, hb⟩
    · omega
    · exact h.dm b k hb hlt
  · have := h.kb g o hk; simp; omega
  · have := h.fb g hg; simp; omega
  · have := ne_of_ids (h.n0 b hb) hnb
    simp [Cx.bind, this]

theorem makeMapK_sound {P : Program} {T : Ty} {t : TypeId} {A : Tmps} {H : Heap} {nb : Nat} {K : D → Heap → Nat → Fp → Prop} (h : makeMapK T t H nb K) :
    ∃ blk, K (.map nb) (hset H nb blk) (nb + 1) ⟨[], [nb]⟩ ∧ ∀ (H : Heap) (nx : Ids), nx nb = false → OpOut P (.makeMap t none) A H nx (.map nb) (hset H nb blk) (iadd nx nb) := by
  unfold makeMapK at h
  split at h
  case h_2 => simp [stuckP] at h
  refine ⟨_, h, fun H nx hnb => .run (iadd_le _ _) fun oo n0 d0 F c a w ho he hw => ⟨by simp [D.under, iadd_self], ?_⟩⟩
  obtain ⟨h1, h2, h3⟩ := hw.allocMap _ nb hnb
  have hrun : (execOp a.eval oo).run P w = .ok (.value (.map (some w.heap.size))) (w.alloc (.map #[] 0)) := by
    unfold execOp
    rw [ho]
    rfl
  refine ⟨_, _, .inl hrun, _, ?_, h1, h2, h3⟩
  simp [Rd, Cx.bind]

theorem setObj_map {P : Program} {w : World} {r : Nat} {es : Array MapEntry} {clock : Nat} (o : Obj) (hb : w.heap[r]? = some (.map es clock)) :
    ∃ w', (setObj r o).run P w = .ok () w' ∧ w'.heap[r]? = some o ∧ (∀ g, g ≠ r → w'.heap[g]? = w.heap[g]?) ∧ w'.heap.size = w.heap.size ∧ SameIO w w' :=
  ⟨_, MapKept.run_setObj_map o hb, (MapKept.heap_set hb).1, (MapKept.heap_set hb).2, by simp, ⟨rfl, rfl, rfl, by first | exact Nat.le_refl _ | exact Nat.le_succ _⟩⟩

theorem sameBits_key {d : TypeDesc} {v : Value} (h : MapKept.IsKey d v) (n : Nat) : Instr.sameBits (n + 1) v v = true := by
  cases d <;> cases v <;> simp_all [MapKept.IsKey, Instr.sameBits, MapKept.bytes_beq]

theorem MapRel.isKey {K : Nat → Nat → Prop} {w : World} {kd : TD} {m : MapF} {arr : Array MapEntry} {clock : Nat} (h : MapRel K w kd m arr clock) {d : TypeDesc} (hd : descOf kd = some d) : ∀ x ∈ arr.toList, MapKept.IsKey d x.key := fun x hx => by
  obtain ⟨k, y, h1, h2, _⟩ := h.e x hx
  obtain ⟨d', hd', hk⟩ := keyOk_spec h1 h2
  rw [hd] at hd'
  cases hd'
  exact hk

/-- a map's entry is put, or changed, whatever the map holds. -/
theorem insMap_any {P : Program} {T : Ty} (hT : TyOk P T) {t kt et : TypeId} {m k v : Operand} {A : Tmps} {op : Op} (hop : op = .mapUpdate t m k v ∨ op = .insert t m k v) (ht : (T t).d = .map kt et) {b : Nat} {q y : Pd}
    (hm : ev A m = .map b) (hkq : ev A k = .p q) (hy : (ev A v).mapv = some y) {kd : TD} (htd : tdEq kd (T kt).d = true) (hq : keyOk kd q = true) :
    ∀ (nx : Ids) (H2 : Heap) (f : MapF), H2 b = some (.map kd f) → OpOut P op A H2 nx (.tup []) (hset H2 b (.map kd (mput f q y))) nx := by
  intro nx H2 f hb2
  refine .run (Ids.le.refl _) fun oo n0 d0 F c a w ho he hw => ⟨rfl, ?_⟩
  have hops : ∀ x ∈ #[m, k, v], x ∈ op.operands := by rcases hop with rfl | rfl <;> simp [Op.operands]
  obtain ⟨hrm, _⟩ := he m (hops m (by simp))
  obtain ⟨hrk, _⟩ := he k (hops k (by simp))
  obtain ⟨hrv, _⟩ := he v (hops v (by simp))
  rw [hm] at hrm
  rw [hkq] at hrk
  have hrm : a.eval m = .map (some (c.ρ b)) := hrm
  have hrk : Rp c.K w q (a.eval k) := hrk
  have hrv := mapv_rp hy hrv
  obtain ⟨arr, clock, g1, g2, g3, g4⟩ := hw.blk b _ hb2
  obtain ⟨d, hd, hik⟩ := keyOk_spec hq hrk
  have hun : P.underlying t = some (.map kt et) := by have := (hT t).und; rwa [ht] at this
  have huk : P.underlying kt = some d := und_key hT (by rw [← tdEq_eq htd]; exact hd)
  have hex : ∀ (w' : World), (Instr.mapUpdate t (a.eval m) (a.eval k) (a.eval v)).run P w = .ok () w' → (execOp a.eval oo).run P w = .ok .skip w' := fun w' hr => by
    unfold execOp
    rcases hop with rfl | rfl <;> (rw [ho]; simp only [Sem.run_bind, hr, Result.andThen_ok, Sem.run_pure])
  have hpl : place c b (.map kd f) = some (c.ρ b) := rfl
  have fin : ∀ (w' : World) (arr' : Array MapEntry) (clock' : Nat), (Instr.mapUpdate t (a.eval m) (a.eval k) (a.eval v)).run P w = .ok () w' → w'.heap[c.ρ b]? = some (.map arr' clock') → (∀ g, g ≠ c.ρ b → w'.heap[g]? = w.heap[g]?) →
      w'.heap.size = w.heap.size → SameIO w w' → MapRel c.K w kd (mput f q y) arr' clock' →
      ∃ v' w'', ((execOp a.eval oo).run P w = .ok (.value v') w'' ∨ ((execOp a.eval oo).run P w = .ok .skip w'' ∧ v' = undef)) ∧
        ∃ c', Rd c' w'' (.tup []) v' ∧ WRel n0 d0 (hset H2 b (.map kd (mput f q y))) nx c' F w'' ∧ Step nx c w c' w'' ∧ Later n0 d0 F c w c' w'' := by
    intro w' arr' clock' hrun s2 s3 s4 s5 hrel
    have hks : KStep c.K w c.K w' := fun g o hk => ⟨hk, fun u hu => by
      rw [World.cell?_of_block (w := w) (s3 g fun e => g4 o (e ▸ hk))]; exact hu⟩
    have hbr : BlkRel c F w' b (.map kd (mput f q y)) := ⟨_, _, s2, hrel.mono hks, g3, g4⟩
    obtain ⟨r1, r2, r3⟩ := hw.row (k' := .map kd (mput f q y)) hb2 hpl g4 w' s3 (by omega) hbr rfl rfl s5
    exact ⟨_, w', .inr ⟨hex w' hrun, rfl⟩, c, ⟨[], rfl, trivial⟩, r1, r2, r3⟩
  have old : ∀ e ∈ arr.toList, e.key ≠ a.eval k → ∃ k x, keyOk kd k = true ∧ Rp c.K w k e.key ∧ mput f q y k = some x ∧ Rp c.K w x e.val := fun e he hne => by
    obtain ⟨k', x, h1, h2, h3, h4⟩ := g2.e e he
    refine ⟨k', x, h1, h2, ?_, h4⟩
    have : keyEq k' q = false := by
      cases hq' : keyEq k' q with
      | false => rfl
      | true => rw [keyEq_eq hq'] at h2; exact absurd (key_val hq h2 hrk) hne
    simp [mput, this, h3]
  rcases MapKept.findNow_spec hik arr.toList 0 (g2.isKey hd) with ⟨a1, a2⟩ | ⟨j, e, a1, a2, a3⟩
  · obtain ⟨w', s1, s2, s3, s4, s5⟩ := setObj_map (P := P) (.map (arr.push { key := a.eval k, val := a.eval v, born := clock }) (clock + 1)) g1
    refine fin w' _ _ ?_ s2 s3 s4 s5 ⟨fun e he => ?_, fun k' x hk' hx => ?_, ?_, fun e he => ?_, ?_⟩
    · unfold Instr.mapUpdate
      simp [hrm, run_underlying hun, MapKept.run_getObj_map g1, MapKept.run_checkKey huk hik, MapKept.run_findKey huk a1, Result.andThen, s1]
    · rw [Array.toList_push] at he
      rcases List.mem_append.1 he with he | he
      · exact old e he (a2 e he)
      · simp at he; subst he
        exact ⟨q, y, hq, hrk, by simp [mput, keyEq_refl hq], hrv⟩
    · rw [Array.toList_push]
      simp only [mput] at hx
      split at hx
      · rename_i hkk
        have := keyEq_eq hkk
        subst this
        exact ⟨_, List.mem_append_right _ (List.mem_singleton.2 rfl), hrk⟩
      · obtain ⟨e, he, hr⟩ := g2.a k' x hk' hx
        exact ⟨e, List.mem_append_left _ he, hr⟩
    · rw [Array.toList_push, List.map_append, List.nodup_append]
      refine ⟨g2.n, by simp, fun x hx z hz => ?_⟩
      obtain ⟨e, he, rfl⟩ := List.mem_map.1 hx
      simp at hz; subst hz
      exact a2 e he
    · rw [Array.toList_push] at he
      rcases List.mem_append.1 he with he | he
      · have := g2.b e he; omega
      · simp at he; subst he; simp
    · rw [Array.toList_push, List.map_append, List.nodup_append]
      refine ⟨g2.d, by simp, fun x hx z hz => ?_⟩
      obtain ⟨e, he, rfl⟩ := List.mem_map.1 hx
      have := g2.b e he
      simp at hz; subst hz; omega
  · rw [Nat.zero_add] at a1
    have a2' : arr[j]? = some e := by rw [← Array.getElem?_toList]; exact a2
    obtain ⟨w', s1, s2, s3, s4, s5⟩ := setObj_map (P := P) (.map (arr.modify j fun e => { e with key := a.eval k, val := a.eval v }) clock) g1
    have hl : (arr.modify j fun e => { e with key := a.eval k, val := a.eval v }).toList = arr.toList.set j { e with key := a.eval k, val := a.eval v } := by
      apply List.ext_getElem?
      intro i
      rw [Array.getElem?_toList, Array.getElem?_modify, List.getElem?_set]
      by_cases hij : j = i
      · subst hij
        obtain ⟨hlt, hee⟩ := Array.getElem?_eq_some_iff.1 a2'
        simp [hlt, hee]
      · simp [hij]
    have hbl : (arr.toList.set j { e with key := a.eval k, val := a.eval v }).map (·.born) = arr.toList.map (·.born) := by
      apply List.ext_getElem?
      intro i
      rw [List.map_set, List.getElem?_set]
      by_cases hij : j = i
      · subst hij
        obtain ⟨hlt, hee⟩ := Array.getElem?_eq_some_iff.1 a2'
        simp [hlt, hee]
      · simp [hij]
    have hkl : (arr.toList.set j { e with key := a.eval k, val := a.eval v }).map (·.key) = arr.toList.map (·.key) := by
      apply List.ext_getElem?
      intro i
      rw [List.map_set, List.getElem?_set]
      by_cases hij : j = i
      · subst hij
        obtain ⟨hlt, hee⟩ := Array.getElem?_eq_some_iff.1 a2'
        simp [hlt, hee, a3]
      · simp [hij]
    refine fin w' _ _ ?_ s2 s3 s4 s5 ⟨fun e' he => ?_, fun k' x hk' hx => ?_, ?_, fun e' he => ?_, ?_⟩
    · unfold Instr.mapUpdate
      simp [hrm, run_underlying hun, MapKept.run_getObj_map g1, MapKept.run_checkKey huk hik, MapKept.run_findKey huk a1, Result.andThen, a2', Instr.keyThatStays, a3, sameBits_key hik, s1]
    · rw [hl] at he
      obtain ⟨i, hi⟩ := List.getElem?_of_mem he
      rw [List.getElem?_set] at hi
      split at hi
      · split at hi
        · cases hi
          exact ⟨q, y, hq, hrk, by simp [mput, keyEq_refl hq], hrv⟩
        · cases hi
      · rename_i hij
        refine old e' (List.mem_of_getElem? hi) fun hk => hij ?_
        have h1 : (arr.toList.map (·.key))[j]? = some (a.eval k) := by rw [List.getElem?_map, a2]; simp [a3]
        have h2 : (arr.toList.map (·.key))[i]? = some (a.eval k) := by rw [List.getElem?_map, hi]; simp [hk]
        exact (List.getElem?_inj (List.getElem?_eq_some_iff.1 h1).1 g2.n).1 (h1.trans h2.symm)
    · rw [hl]
      have hkeys : ∀ z, z ∈ arr.toList.map (·.key) → ∃ e'' ∈ arr.toList.set j { e with key := a.eval k, val := a.eval v }, e''.key = z := fun z hz => by
        rw [← hkl] at hz
        obtain ⟨e'', h1, h2⟩ := List.mem_map.1 hz
        exact ⟨e'', h1, h2⟩
      simp only [mput] at hx
      split at hx
      · rename_i hkk
        have := keyEq_eq hkk
        subst this
        obtain ⟨e'', h1, h2⟩ := hkeys (a.eval k) (List.mem_map.2 ⟨e, List.mem_of_getElem? a2, a3⟩)
        exact ⟨e'', h1, by rw [h2]; exact hrk⟩
      · obtain ⟨e0, he0, hr⟩ := g2.a k' x hk' hx
        obtain ⟨e'', h1, h2⟩ := hkeys e0.key (List.mem_map.2 ⟨e0, he0, rfl⟩)
        exact ⟨e'', h1, by rw [h2]; exact hr⟩
    · rw [hl, hkl]; exact g2.n
    · rw [hl] at he
      rcases List.mem_or_eq_of_mem_set he with he | he
      · exact g2.b e' he
      · subst he; exact g2.b e (List.mem_of_getElem? a2)
    · rw [hl, hbl]; exact g2.d

theorem updMapK_inv {T : Ty} {t : TypeId} {m k v : D} {H : Heap} {K : Heap → Fp → Prop} (h : updMapK T t m k v H K) :
    ∃ kt et b q y kd f, (T t).d = .map kt et ∧ m = .map b ∧ k = .p q ∧ v.mapv = some y ∧ tdEq kd (T kt).d = true ∧ keyOk kd q = true ∧ H b = some (.map kd f) ∧ K (hset H b (.map kd (mput f q y))) ⟨[], [b]⟩ := by
  unfold updMapK at h
  split at h
  case h_2 => simp [stuckP] at h
  rename_i kt et ht
  split at h
  case h_2 => simp [stuckP] at h
  rename_i b
  split at h
  case h_2 => simp [stuckP] at h
  rename_i kd f hH
  split at h
  case h_2 => simp [stuckP] at h
  rename_i q
  split at h
  case h_2 => simp [stuckP] at h
  rename_i hq
  split at h
  case h_2 => simp [stuckP] at h
  rename_i y hy
  simp only [Bool.and_eq_true] at hq
  exact ⟨kt, et, b, q, y, kd, f, ht, rfl, rfl, hy, hq.1, hq.2, hH, h⟩

theorem updMapK_sound {P : Program} {T : Ty} (hT : TyOk P T) {t : TypeId} {m k v : Operand} {A : Tmps} {H : Heap} {K : Heap → Fp → Prop} {op : Op} (hop : op = .mapUpdate t m k v ∨ op = .insert t m k v)
    (h : updMapK T t (ev A m) (ev A k) (ev A v) H K) : ∃ b blk, K (hset H b blk) ⟨[], [b]⟩ ∧ ∀ (nx : Ids) (H2 : Heap), H2 b = H b → OpOut P op A H2 nx (.tup []) (hset H2 b blk) nx := by
  obtain ⟨kt, et, b, q, y, kd, f, ht, hm, hk, hy, htd, hq, hH, hK⟩ := updMapK_inv h
  exact ⟨b, _, hK, fun nx H2 hH2 => insMap_any hT hop ht hm hk hy htd hq nx H2 f (hH2.trans hH)⟩

theorem zeroPd_run {P : Program} {T : Ty} (hT : TyOk P T) {t : TypeId} (hg : (T t).good = true) {z : Pd} (hz : zeroPd (T t) = some z) (c : Cx) (w : World) : ∃ v, (zeroValue t).run P w = .ok v w ∧ Rp c.K w z v := by
  obtain ⟨f, zv, hf, hs, hzv, hl, hlen⟩ := (hT t).info (TI.good_ne hg)
  refine ⟨zv, by simp only [zeroValue, Sem.run_bind, info_run hf, Result.andThen_ok, hzv, Sem.run_pure], ?_⟩
  have hza := (hT t).zag (TI.good_ne hg) f zv hf hzv
  obtain ⟨hrl, h1⟩ := vEqL_rd c w _ _ hl
  unfold zeroPd at hz
  split at hz
  case h_2 => cases hz
  rename_i zs hzs
  rw [allPd_eq hzs] at hrl
  have key : ∀ (zs : List Pd) (vs : List Value), RdL c w (zs.map D.p) vs → zs.length = vs.length ∧ ∀ (j : Nat) (q : Pd) (v : Value), zs[j]? = some q → vs[j]? = some v → Rp c.K w q v := by
    intro zs
    induction zs with
    | nil => intro vs h; cases vs with | nil => simp | cons _ _ => exact h.elim
    | cons y ys ih =>
      intro vs h
      cases vs with
      | nil => exact h.elim
      | cons v vs =>
        obtain ⟨a1, a2⟩ := ih vs h.2
        refine ⟨by simp [a1], fun j q u hq hu => ?_⟩
        cases j with
        | zero => simp at hq hu; subst hq; subst hu; exact h.1
        | succ j => simp at hq hu; exact a2 j q u hq hu
  obtain ⟨a1, a2⟩ := key _ _ hrl
  split at hz
  · rename_i hagg
    cases hz
    cases zv with
    | agg cs =>
      have := Rp.agg (K := c.K) (w := w) zs cs.toList (by simpa [Value.cells] using a1) (by simpa [Value.cells] using h1) (by simpa [Value.cells] using a2)
      simpa using this
    | _ => simp [zagg, hagg] at hza
  · rename_i hagg
    split at hz
    case h_2 => cases hz
    rename_i z0
    split at hz
    case h_2 => cases hz
    cases hz
    cases zv with
    | agg cs => simp [zagg, hagg] at hza
    | _ => exact a2 0 _ _ rfl rfl

theorem lookMapK_sound {P : Program} {T : Ty} (hT : TyOk P T) {t : TypeId} {m k : Operand} {ok : Bool} {A : Tmps} {H : Heap} {K : D → Fp → Prop}
    (h : lookMapK T t (ev A m) (ev A k) ok H K) : ∃ d fp, K d fp ∧ ∀ (nx : Ids) (H2 : Heap), (∀ b ∈ fp.r ++ fp.w, H2 b = H b) → OpOut P (.lookup t m k ok) A H2 nx d H2 nx := by
  unfold lookMapK at h
  split at h
  case h_2 => simp [stuckP] at h
  rename_i kt et ht
  split at h
  case h_2 => simp [stuckP] at h
  rename_i hg
  split at h
  case h_2 => simp [stuckP] at h
  rename_i z hz
  split at h
  case h_2 => simp [stuckP] at h
  rename_i b hm
  split at h
  case h_2 => simp [stuckP] at h
  rename_i kd f hH
  split at h
  case h_2 => simp [stuckP] at h
  rename_i q hkq
  split at h
  case h_2 => simp [stuckP] at h
  rename_i hq
  simp only [Bool.and_eq_true] at hq
  obtain ⟨htd, hq⟩ := hq
  have hun : P.underlying t = some (.map kt et) := by have := (hT t).und; rwa [ht] at this
  have fin : ∀ (nx : Ids) (H2 : Heap), H2 b = H b → ∀ (oo : Oper) (n0 : Nat) (d0 F : Nat → Prop) (c : Cx) (a : Act) (w : World), oo.op = .lookup t m k ok → Evs c w nx A a (.lookup t m k ok) → WRel n0 d0 H2 nx c F w →
      ∃ u, Rp c.K w ((f q).getD z) u ∧ (execOp a.eval oo).run P w = .ok (.value (if ok then .tuple #[u, .bool (f q).isSome] else u)) w := by
    intro nx H2 hH2 oo n0 d0 F c a w ho he hw
    have hb2 : H2 b = some (.map kd f) := hH2.trans hH
    obtain ⟨hrm, _⟩ := he m (by simp [Op.operands])
    obtain ⟨hrk, _⟩ := he k (by simp [Op.operands])
    rw [hm] at hrm
    rw [hkq] at hrk
    have hrm : a.eval m = .map (some (c.ρ b)) := hrm
    have hrk : Rp c.K w q (a.eval k) := hrk
    obtain ⟨arr, clock, g1, g2, g3, g4⟩ := hw.blk b _ hb2
    obtain ⟨d, hd, hik⟩ := keyOk_spec hq hrk
    have huk : P.underlying kt = some d := und_key hT (by rw [← tdEq_eq htd]; exact hd)
    rcases MapKept.findNow_spec hik arr.toList 0 (g2.isKey hd) with ⟨a1, a2⟩ | ⟨j, e, a1, a2, a3⟩
    · have hn : f q = none := by
        cases hfq : f q with
        | none => rfl
        | some x =>
          obtain ⟨e, he, hr⟩ := g2.a q x hq hfq
          exact absurd (key_val hq hr hrk) (a2 e he)
      obtain ⟨zv, hzr, hzp⟩ := zeroPd_run hT hg hz c w
      refine ⟨zv, by rw [hn]; exact hzp, ?_⟩
      refine exec_val (s := Instr.lookup t (a.eval m) (a.eval k) ok) (by unfold execOp; rw [ho]) ?_
      unfold Instr.lookup
      cases ok <;> simp [hrm, run_underlying hun, MapKept.run_getObj_map g1, MapKept.run_checkKey huk hik, MapKept.run_findKey huk a1, Result.andThen, hzr, hn]
    · obtain ⟨k', x, h1, h2, h3, h4⟩ := g2.e e (List.mem_of_getElem? a2)
      rw [a3] at h2
      have := key_inj h1 hq h2 hrk
      subst this
      refine ⟨e.val, by rw [h3]; exact h4, ?_⟩
      refine exec_val (s := Instr.lookup t (a.eval m) (a.eval k) ok) (by unfold execOp; rw [ho]) ?_
      unfold Instr.lookup
      cases ok <;> simp [hrm, run_underlying hun, MapKept.run_getObj_map g1, MapKept.run_checkKey huk hik, MapKept.run_findKey huk a1, Result.andThen, h3]
  split at h
  · replace h := h.out
    refine ⟨_, _, h, fun nx H2 hH2 => .value fun oo n0 d0 F c a w ho he hw => ?_⟩
    obtain ⟨u, h1, h2⟩ := fin nx H2 (hH2 b (by simp)) oo n0 d0 F c a w ho he hw
    exact ⟨rfl, u, by simpa using h2, h1⟩
  · replace h := h.out
    refine ⟨_, _, h, fun nx H2 hH2 => .value fun oo n0 d0 F c a w ho he hw => ?_⟩
    obtain ⟨u, h1, h2⟩ := fin nx H2 (hH2 b (by simp)) oo n0 d0 F c a w ho he hw
    exact ⟨rfl, _, by simpa using h2, [u, .bool (f q).isSome], rfl, h1, .bool _, trivial⟩
end Qa
