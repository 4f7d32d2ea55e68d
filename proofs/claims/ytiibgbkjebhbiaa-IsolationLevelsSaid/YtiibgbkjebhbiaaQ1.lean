/-
  An abstract machine for the given form of the program: values, heaps, the relation to worlds, single operations.
  Part of a proof about the program's own text; written by an AI agent. No statement is proved here: the lemmas that the last text needs.
-/
import Derived.WalkKit
namespace Qa
open Go

/-- Pure data: what never changes in memory. -/
inductive Pd where
  | int (k : IntKind) (n : Int)
  | bool (b : Bool)
  | str (s : ByteArray)
  | list (xs : List Pd)
  | agg (cs : List Pd)

/-- Values of the abstract machine. -/
inductive D where
  | p (x : Pd)
  | nilsl
  | full (xs : List Pd)
  | acc (b : Nat) (xs : List Pd)
  | ref (b off : Nat)
  | xref (b off : Nat)
  | cptr (cs : List Pd)
  | ms (b sz lo n cap : Nat)
  | agg (cs : List D)
  | tup (ds : List D)
  | fn (f : Nat) (first cap : List D)
  | nilptr
  | nilfn
  | nilmap
  | map (b : Nat)
  | vec (b ver sz lo n : Nat)
  | vref (b ver sz i : Nat)
  | junk

inductive TD where
  | int (k : IntKind) | bool | str
  | struct (fs : List (Nat × Nat))
  | slice (e : TypeId) (sz by_ : Nat)
  | arr (n : Nat) (e : TypeId) (sz : Nat)
  | ptr | func | other | bad
  | map (k e : TypeId)

def kEq : IntKind → IntKind → Bool
  | .i8, .i8 => true | .i16, .i16 => true | .i32, .i32 => true | .i64, .i64 => true
  | .u8, .u8 => true | .u16, .u16 => true | .u32, .u32 => true | .u64, .u64 => true
  | _, _ => false
theorem kEq_eq {a b : IntKind} (h : kEq a b = true) : a = b := by cases a <;> cases b <;> first | rfl | simp [kEq] at h
-- maps: keys are numbers, bools, strings
def keyOk : TD → Pd → Bool
  | .int a, .int b _ => kEq a b
  | .bool, .bool _ => true
  | .str, .str _ => true
  | _, _ => false
def keyEq : Pd → Pd → Bool
  | .int a n, .int b m => kEq a b && decide (n = m)
  | .bool a, .bool b => a == b
  | .str a, .str b => decide (a = b)
  | _, _ => false
theorem keyEq_eq {a b : Pd} (h : keyEq a b = true) : a = b := by
  cases a <;> cases b <;> simp [keyEq] at h
  · obtain ⟨h1, h2⟩ := h
    rw [kEq_eq h1, h2]
  · rw [h]
  · rw [h]
theorem keyEq_refl {kd : TD} {a : Pd} (h : keyOk kd a = true) : keyEq a a = true := by
  cases kd <;> cases a <;> simp [keyOk] at h <;> simp [keyEq]
  have e := kEq_eq h
  subst e; exact h
/-- a map's content. -/
abbrev MapF := Pd → Option Pd
def mput (m : MapF) (q v : Pd) : MapF := fun k => match keyEq k q with | true => some v | false => m k
def mnil : MapF := fun _ => none
theorem mput_comm (m : MapF) {q1 q2 v1 v2 : Pd} (h : keyEq q1 q2 = false) (h' : keyEq q1 q1 = true) : mput (mput m q1 v1) q2 v2 = mput (mput m q2 v2) q1 v1 := by
  funext k
  simp only [mput]
  cases h1 : keyEq k q1 with
  | false => rfl
  | true =>
    cases h2 : keyEq k q2 with
    | false => rfl
    | true =>
      have e1 := keyEq_eq h1
      have e2 := keyEq_eq h2
      rw [← e1, ← e2] at h
      rw [e1] at h
      rw [h'] at h
      cases h

inductive Blk where
  | cells (e : TypeId) (cs : List D)
  | tok (e : TypeId) (sz n : Nat)
  | vec (e : TypeId) (sz ver : Nat) (xs : List Pd)
  | map (kd : TD) (m : MapF)

abbrev Heap := Nat → Option Blk
/-- the ids in use. -/
abbrev Ids := Nat → Bool
def below (n : Nat) : Ids := fun b => Nat.blt b n
def iadd (V : Ids) (b : Nat) : Ids := fun x => match Nat.beq x b with | true => true | false => V x
def Ids.le (V V2 : Ids) : Prop := ∀ b, V b = true → V2 b = true
theorem Ids.le.refl (V : Ids) : V.le V := fun _ h => h
theorem Ids.le.trans {V V2 V3 : Ids} (h : V.le V2) (k : V2.le V3) : V.le V3 := fun b hb => k b (h b hb)
theorem iadd_self (V : Ids) (b : Nat) : iadd V b b = true := by simp [iadd]
theorem iadd_ne (V : Ids) {b x : Nat} (h : x ≠ b) : iadd V b x = V x := by
  have : Nat.beq x b = false := by cases hb : Nat.beq x b <;> simp_all
  simp [iadd, this]
theorem iadd_le (V : Ids) (b : Nat) : V.le (iadd V b) := fun x hx => by
  by_cases e : x = b
  · subst e; exact iadd_self V x
  · rw [iadd_ne V e]; exact hx
theorem below_iff {n b : Nat} : below n b = true ↔ b < n := by simp [below]
theorem below_le {n m : Nat} (h : n ≤ m) : (below n).le (below m) := fun b hb => by rw [below_iff] at *; omega
theorem below_succ (n : Nat) : below (n + 1) = iadd (below n) n := by
  funext b
  by_cases e : b = n
  · subst e; rw [iadd_self]; exact below_iff.2 (by omega)
  · rw [iadd_ne _ e]
    cases h : below n b with
    | true => exact below_iff.2 (by rw [below_iff] at h; omega)
    | false =>
      cases h2 : below (n + 1) b with
      | false => rfl
      | true => rw [below_iff] at h2; have : below n b = true := below_iff.2 (by omega); rw [h] at this; cases this
abbrev Tmps := Nat → D

structure TI where
  d : TD
  size : Nat
  zero : List D
  mode : Nat := 0

/-- the ids from n to m besides. -/
def iups (V : Ids) (n m : Nat) : Ids := fun b => (Nat.ble n b && Nat.blt b m) || V b
theorem iups_iff {V : Ids} {n m b : Nat} : iups V n m b = true ↔ (n ≤ b ∧ b < m) ∨ V b = true := by simp [iups]
theorem iups_same (V : Ids) (n : Nat) : iups V n n = V := by
  funext b
  cases h : V b with
  | true => exact iups_iff.2 (.inr h)
  | false =>
    cases h2 : iups V n n b with
    | false => rfl
    | true => rcases iups_iff.1 h2 with h3 | h3
              · omega
              · rw [h] at h3; cases h3
theorem iups_succ (V : Ids) (n : Nat) : iups V n (n + 1) = iadd V n := by
  funext b
  by_cases e : b = n
  · subst e; rw [iadd_self]; exact iups_iff.2 (.inl ⟨Nat.le_refl _, Nat.lt_succ_self _⟩)
  · rw [iadd_ne _ e]
    cases h : V b with
    | true => exact iups_iff.2 (.inr h)
    | false =>
      cases h2 : iups V n (n + 1) b with
      | false => rfl
      | true => rcases iups_iff.1 h2 with h3 | h3
                · omega
                · rw [h] at h3; cases h3
theorem iups_below {n m : Nat} (h : n ≤ m) : iups (below n) n m = below m := by
  funext b
  cases h1 : below m b with
  | true =>
    rw [below_iff] at h1
    exact iups_iff.2 (by rw [below_iff]; omega)
  | false =>
    cases h2 : iups (below n) n m b with
    | false => rfl
    | true =>
      have : below m b = true := by
        rw [below_iff]
        rcases iups_iff.1 h2 with h3 | h3
        · omega
        · rw [below_iff] at h3; omega
      rw [h1] at this; cases this
theorem iups_le (V : Ids) (n m : Nat) : V.le (iups V n m) := fun _ h => iups_iff.2 (.inr h)

def TI.isAgg (t : TI) : Bool := match t.d with | .struct _ => true | .arr .. => true | _ => false

def TI.good (t : TI) : Bool := match t.d with | .bad => false | _ => true
theorem TI.good_ne {t : TI} (h : t.good = true) : t.d ≠ .bad := by intro e; simp [TI.good, e] at h

abbrev Ty := Nat → TI

structure Fp where
  r : List Nat
  w : List Nat

def fp0 : Fp := ⟨[], []⟩

def upd (A : Tmps) (t : Nat) (d : D) : Tmps := fun x => match Nat.beq x t with | true => d | false => A x
def put (A : Tmps) (t : Option Nat) (d : D) : Tmps := match t with | some t => upd A t d | none => A
def hset (H : Heap) (b : Nat) (k : Blk) : Heap := fun x => match Nat.beq x b with | true => some k | false => H x
def hdel (H : Heap) (b : Nat) : Heap := fun x => match Nat.beq x b with | true => none | false => H x

def ofVal : Value → D
  | .int k n => .p (.int k n)
  | .bool b => .p (.bool b)
  | .string s => .p (.str s)
  | .slice none 0 0 => .nilsl
  | .pointer none => .nilptr
  | .nilFunc => .nilfn
  | .map none => .nilmap
  | _ => .junk

def ev (A : Tmps) : Operand → D
  | .tmp t => A t
  | .const v => ofVal v
  | .func f => .fn f [] []
  | .global _ => .junk

def force (d : D) (K : D → Prop) : Prop :=
  match d with
  | .p x => K (.p x)
  | .nilsl => K .nilsl
  | .full xs => K (.full xs)
  | .acc b xs => K (.acc b xs)
  | .ref b o => K (.ref b o)
  | .xref b o => K (.xref b o)
  | .cptr cs => K (.cptr cs)
  | .ms b s l n c => K (.ms b s l n c)
  | .agg cs => K (.agg cs)
  | .tup ds => K (.tup ds)
  | .fn f a b => K (.fn f a b)
  | .nilptr => K .nilptr
  | .nilfn => K .nilfn
  | .nilmap => K .nilmap
  | .map b => K (.map b)
  | .vec b v s l n => K (.vec b v s l n)
  | .vref b v s i => K (.vref b v s i)
  | .junk => K .junk

theorem force_iff (d : D) (K : D → Prop) : force d K ↔ K d := by cases d <;> exact Iff.rfl

def Pd.cells : Pd → List Pd
  | .agg cs => cs
  | x => [x]

def D.cells : D → List D
  | .agg cs => cs
  | .p x => x.cells.map D.p
  | d => [d]

def allPd : List D → Option (List Pd)
  | [] => some []
  | .p x :: r => match allPd r with | some xs => some (x :: xs) | none => none
  | _ :: _ => none

def mkAgg (ds : List D) : D := match allPd ds with | some xs => .p (.agg xs) | none => .agg ds

mutual
def D.under (n : Ids) : D → Bool
  | .acc b _ => n b
  | .ref b _ => n b
  | .xref b _ => n b
  | .ms b _ _ _ _ => n b
  | .map b => n b
  | .vec b _ _ _ _ => n b
  | .vref b _ _ _ => n b
  | .agg cs => underL n cs
  | .tup cs => underL n cs
  | .fn _ a b => underL n a && underL n b
  | .p _ => true
  | .nilsl => true
  | .full _ => true
  | .cptr _ => true
  | .nilptr => true
  | .nilfn => true
  | .nilmap => true
  | .junk => true
def underL (n : Ids) : List D → Bool
  | [] => true
  | d :: ds => D.under n d && underL n ds
end

def Blk.under (n : Ids) : Blk → Bool
  | .cells _ cs => underL n cs
  | .tok _ _ _ => true
  | .vec _ _ _ _ => true
  | .map _ _ => true

/-- one cell? -/
def D.one : D → Bool
  | .agg _ => false
  | .tup _ => false
  | .p (.agg _) => false
  | .junk => false
  | _ => true
def Pd.one : Pd → Bool
  | .agg _ => false
  | _ => true

-- markers: the walk stops at these (structures: nothing can unfold them)
structure getP (xs : List Pd) (i : Int) (sz : Nat) (K : Pd → Prop) : Prop where
  out : 0 ≤ i ∧ ∃ x, xs[i.toNat]? = some x ∧ x.cells.length = sz ∧ K x
structure getD (xs : List D) (i : Nat) (K : D → Prop) : Prop where
  out : ∃ x, xs[i]? = some x ∧ K x
structure wrapP (k : IntKind) (n : Int) (K : Int → Prop) : Prop where
  out : K (k.wrap n)
structure eqP (x y : Pd) (K : Bool → Prop) : Prop where
  out : ∃ b : Bool, (b = true ↔ x = y) ∧ K b
structure needP (X : Prop) (K : Prop) : Prop where
  out : X ∧ K
theorem getP_iff {xs : List Pd} {i : Int} {sz : Nat} {K : Pd → Prop} : getP xs i sz K ↔ 0 ≤ i ∧ ∃ x, xs[i.toNat]? = some x ∧ x.cells.length = sz ∧ K x := ⟨fun h => h.out, fun h => ⟨h⟩⟩
theorem getD_iff {xs : List D} {i : Nat} {K : D → Prop} : getD xs i K ↔ ∃ x, xs[i]? = some x ∧ K x := ⟨fun h => h.out, fun h => ⟨h⟩⟩
theorem wrapP_iff {k : IntKind} {n : Int} {K : Int → Prop} : wrapP k n K ↔ K (k.wrap n) := ⟨fun h => h.out, fun h => ⟨h⟩⟩
theorem needP_iff {X K : Prop} : needP X K ↔ X ∧ K := ⟨fun h => h.out, fun h => ⟨h⟩⟩
@[irreducible] def stuckP (_why : String) : Prop := False

theorem condB_split {c : Bool} {X Y : Prop} (h : c = true → X) (k : c = false → Y) : Bool.rec (motive := fun _ => Prop) Y X c := by
  cases c
  · exact k rfl
  · exact h rfl
theorem getP_intro {xs : List Pd} {i : Int} {sz : Nat} {K : Pd → Prop} (x : Pd) (h0 : 0 ≤ i) (h : xs[i.toNat]? = some x) (k : K x) (hs : x.cells.length = sz := by rfl) : getP xs i sz K := ⟨⟨h0, x, h, hs, k⟩⟩
def condB (c : Bool) (X Y : Prop) : Prop := Bool.rec (motive := fun _ => Prop) Y X c
theorem getD_intro {xs : List D} {i : Nat} {K : D → Prop} (x : D) (h : xs[i]? = some x) (k : K x) : getD xs i K := ⟨⟨x, h, k⟩⟩
theorem wrapP_to {k : IntKind} {n m : Int} {K : Int → Prop} (h : k.wrap n = m) (hk : K m) : wrapP k n K := ⟨by rw [h]; exact hk⟩
theorem wrapP_intro {k : IntKind} {n : Int} {K : Int → Prop} (h : k.wrap n = n) (hk : K n) : wrapP k n K := ⟨by rw [h]; exact hk⟩
theorem wrapP_any {k : IntKind} {n : Int} {K : Int → Prop} (hk : K (k.wrap n)) : wrapP k n K := ⟨hk⟩
theorem eqP_intro {x y : Pd} {K : Bool → Prop} (b : Bool) (h : b = true ↔ x = y) (hk : K b) : eqP x y K := ⟨⟨b, h, hk⟩⟩
theorem needP_intro {X K : Prop} (h : X) (hk : K) : needP X K := ⟨⟨h, hk⟩⟩

end Qa

namespace Qa
open Go

structure Cx where
  ρ : Nat → Nat
  τ : Nat → Option (Nat × Option (Nat × Nat))
  K : Nat → Nat → Prop

/-- how a pure datum lies in memory (only cells of K are read). -/
inductive Rp (K : Nat → Nat → Prop) (w : World) : Pd → Value → Prop
  | int (k : IntKind) (n : Int) : Rp K w (.int k n) (.int k n)
  | bool (b : Bool) : Rp K w (.bool b) (.bool b)
  | str (s : ByteArray) : Rp K w (.str s) (.string s)
  | nil : Rp K w (.list []) (.slice none 0 0)
  | nila (a : Addr) : Rp K w (.list []) (.slice (some a) 0 0)
  | list (g o cap sz : Nat) (xs : List Pd) (u : Nat → Value) (hcap : xs.length ≤ cap)
      (hs : ∀ (i : Nat) (x : Pd), xs[i]? = some x → x.cells.length = sz)
      (hc : ∀ (i : Nat) (x : Pd) (j : Nat) (c : Pd), xs[i]? = some x → x.cells[j]? = some c →
        K g (o + i * sz + j) ∧ w.cell? ⟨g, o + i * sz + j, none⟩ = some (u (i * sz + j)) ∧ (u (i * sz + j)).oneCell' = true)
      (hr : ∀ (i : Nat) (x : Pd) (j : Nat) (c : Pd), xs[i]? = some x → x.cells[j]? = some c → Rp K w c (u (i * sz + j))) :
      Rp K w (.list xs) (.slice (some ⟨g, o, none⟩) xs.length cap)
  | agg (cs : List Pd) (vs : List Value) (hl : cs.length = vs.length) (h1 : ∀ v ∈ vs, v.oneCell' = true)
      (h : ∀ (j : Nat) (c : Pd) (v : Value), cs[j]? = some c → vs[j]? = some v → Rp K w c v) :
      Rp K w (.agg cs) (.agg vs.toArray)

def KStep (K : Nat → Nat → Prop) (w : World) (K' : Nat → Nat → Prop) (w' : World) : Prop :=
  ∀ g o, K g o → K' g o ∧ ∀ u, w.cell? ⟨g, o, none⟩ = some u → w'.cell? ⟨g, o, none⟩ = some u

theorem KStep.refl (K : Nat → Nat → Prop) (w : World) : KStep K w K w := fun _ _ h => ⟨h, fun _ h => h⟩
theorem KStep.trans {K w K1 w1 K2 w2} (h : KStep K w K1 w1) (h2 : KStep K1 w1 K2 w2) : KStep K w K2 w2 :=
  fun g o hk => ⟨(h2 g o (h g o hk).1).1, fun u hu => (h2 g o (h g o hk).1).2 u ((h g o hk).2 u hu)⟩

theorem Rp.mono {K w K' w'} (hs : KStep K w K' w') {x : Pd} {v : Value} (h : Rp K w x v) : Rp K' w' x v := by
  induction h with
  | int k n => exact .int k n
  | bool b => exact .bool b
  | str s => exact .str s
  | nil => exact .nil
  | nila a => exact .nila a
  | list g o cap sz xs u hcap hsz hc hr ih =>
    exact .list g o cap sz xs u hcap hsz (fun i x j c h1 h2 =>
      let ⟨a, b, e⟩ := hc i x j c h1 h2
      ⟨(hs _ _ a).1, (hs _ _ a).2 _ b, e⟩) ih
  | agg cs vs hl h1 h ih => exact .agg cs vs hl h1 ih

def tokVal (n : Nat) : Option (Nat × Nat) → Value
  | none => .slice none 0 0
  | some (g, cap) => .slice (some ⟨g, 0, none⟩) n cap

def vecVal : Option (Nat × Nat) → Nat → Nat → Nat → Value → Prop
  | none, _, lo, n, v => lo = 0 ∧ n = 0 ∧ v = .slice none 0 0
  | some (g, cap), sz, lo, n, v => ∃ o, v = .slice (some ⟨g, o, none⟩) n (cap - lo) ∧ (cap ≠ lo → o = lo * sz) ∧ lo + n ≤ cap

mutual
def Rd (c : Cx) (w : World) : D → Value → Prop
  | .p x, v => Rp c.K w x v
  | .nilsl, v => v = .slice none 0 0
  | .full xs, v => Rp c.K w (.list xs) v ∧ ∃ a, v = .slice a xs.length xs.length
  | .acc b xs, v => Rp c.K w (.list xs) v ∧ ∀ n p, c.τ b = some (n, p) → xs.length ≤ n ∧ (xs.length = n → v = tokVal n p)
  | .ref b o, v => v = .pointer (some ⟨c.ρ b, o, none⟩)
  | .xref b o, v => v = .pointer (some ⟨c.ρ b, o, none⟩)
  | .cptr cs, v => ∃ (g o : Nat) (u : Nat → Value), v = .pointer (some ⟨g, o, none⟩) ∧ ∀ (j : Nat) (x : Pd), cs[j]? = some x →
      c.K g (o + j) ∧ w.cell? ⟨g, o + j, none⟩ = some (u j) ∧ (u j).oneCell' = true ∧ Rp c.K w x (u j)
  | .ms b _ lo n cap, v => ∃ o, v = .slice (some ⟨c.ρ b, o, none⟩) n cap ∧ (cap ≠ 0 → o = lo) ∧ n ≤ cap
  | .agg cs, v => ∃ vs : List Value, v = .agg vs.toArray ∧ RdL c w cs vs
  | .tup ds, v => ∃ vs : List Value, v = .tuple vs.toArray ∧ RdL c w ds vs
  | .fn f a b, v => ∃ as bs : List Value, v = .func (.func f) as.toArray bs.toArray ∧ RdL c w a as ∧ RdL c w b bs
  | .nilptr, v => v = .pointer none
  | .nilfn, v => v = .nilFunc
  | .nilmap, v => v = .map none
  | .map b, v => v = .map (some (c.ρ b))
  | .vec b ver sz lo n, v => (∃ a k, v = .slice a n k) ∧ ∀ ver' p, c.τ b = some (ver', p) → ver ≤ ver' ∧ (ver = ver' → vecVal p sz lo n v)
  | .vref b ver sz i, v => (∃ a, v = .pointer a) ∧ ∀ ver' p, c.τ b = some (ver', p) → ver ≤ ver' ∧ (ver = ver' → ∃ g cap, p = some (g, cap) ∧ v = .pointer (some ⟨g, i * sz, none⟩))
  | .junk, _ => True
def RdL (c : Cx) (w : World) : List D → List Value → Prop
  | [], [] => True
  | d :: ds, v :: vs => Rd c w d v ∧ RdL c w ds vs
  | _, _ => False
end

def tgrow (a b : Option (Nat × Option (Nat × Nat))) : Prop :=
  ∀ n' p', b = some (n', p') → ∃ n p, a = some (n, p) ∧ n ≤ n' ∧ (n = n' → p = p')

theorem tgrow.refl (a) : tgrow a a := fun n p h => ⟨n, p, h, Nat.le_refl _, fun _ => rfl⟩
theorem tgrow.trans {a b c} (h : tgrow a b) (h2 : tgrow b c) : tgrow a c := fun n p e => by
  obtain ⟨n1, p1, e1, l1, q1⟩ := h2 n p e
  obtain ⟨n2, p2, e2, l2, q2⟩ := h n1 p1 e1
  refine ⟨n2, p2, e2, Nat.le_trans l2 l1, fun he => ?_⟩
  exact (q2 (by omega)).trans (q1 (by omega))

/-- from one world to a later one: what stays for ids below n. -/
structure Step (n : Ids) (c : Cx) (w : World) (c' : Cx) (w' : World) : Prop where
  k : KStep c.K w c'.K w'
  ρ : ∀ b, n b = true → c'.ρ b = c.ρ b
  τ : ∀ b, n b = true → tgrow (c.τ b) (c'.τ b)

theorem Step.refl (n c w) : Step n c w c w := ⟨KStep.refl _ _, fun _ _ => rfl, fun _ _ => tgrow.refl _⟩
theorem Step.trans {n c w c1 w1 c2 w2} (h : Step n c w c1 w1) (h2 : Step n c1 w1 c2 w2) : Step n c w c2 w2 :=
  ⟨h.k.trans h2.k, fun b hb => (h2.ρ b hb).trans (h.ρ b hb), fun b hb => (h.τ b hb).trans (h2.τ b hb)⟩
theorem Step.le {n m c w c' w'} (h : Step n c w c' w') (hm : Ids.le m n) : Step m c w c' w' :=
  ⟨h.k, fun b hb => h.ρ b (hm b hb), fun b hb => h.τ b (hm b hb)⟩

mutual
theorem Rd.mono {n c w c' w'} (s : Step n c w c' w') : ∀ (d : D) (v : Value), d.under n = true → Rd c w d v → Rd c' w' d v
  | .p _, _, _, h => Rp.mono s.k h
  | .nilsl, _, _, h => h
  | .full _, _, _, h => ⟨Rp.mono s.k h.1, h.2⟩
  | .acc b xs, v, hb, h => by
    have hb : n b = true := by simpa [D.under] using hb
    refine ⟨Rp.mono s.k h.1, fun n' p' e => ?_⟩
    obtain ⟨n1, p1, e1, l1, q1⟩ := s.τ b hb n' p' e
    obtain ⟨h1, h2⟩ := h.2 _ _ e1
    refine ⟨Nat.le_trans h1 l1, fun he => ?_⟩
    have hn : n1 = n' := by omega
    have := q1 hn
    subst this
    subst hn
    exact h2 he
  | .ref b o, v, hb, h => by
    have hb : n b = true := by simpa [D.under] using hb
    simpa [Rd, s.ρ b hb] using h
  | .xref b o, v, hb, h => by
    have hb : n b = true := by simpa [D.under] using hb
    simpa [Rd, s.ρ b hb] using h
  | .cptr cs, v, _, h => by
    obtain ⟨g, o, u, rfl, hc⟩ := h
    exact ⟨g, o, u, rfl, fun j x hx => let ⟨a, b, e, f⟩ := hc j x hx; ⟨(s.k _ _ a).1, (s.k _ _ a).2 _ b, e, Rp.mono s.k f⟩⟩
  | .ms b sz lo m cap, v, hb, h => by
    have hb : n b = true := by simpa [D.under] using hb
    simpa [Rd, s.ρ b hb] using h
  | .agg cs, v, hb, h => by
    obtain ⟨vs, rfl, hr⟩ := h
    exact ⟨vs, rfl, RdL.mono s cs vs (by simpa [D.under] using hb) hr⟩
  | .tup cs, v, hb, h => by
    obtain ⟨vs, rfl, hr⟩ := h
    exact ⟨vs, rfl, RdL.mono s cs vs (by simpa [D.under] using hb) hr⟩
  | .fn f a b, v, hb, h => by
    obtain ⟨as, bs, rfl, ha, hbb⟩ := h
    have hb : underL n a = true ∧ underL n b = true := by simpa [D.under] using hb
    exact ⟨as, bs, rfl, RdL.mono s a as hb.1 ha, RdL.mono s b bs hb.2 hbb⟩
  | .nilptr, _, _, h => h
  | .nilfn, _, _, h => h
  | .nilmap, _, _, h => h
  | .map b, v, hb, h => by
    have hb : n b = true := by simpa [D.under] using hb
    simpa [Rd, s.ρ b hb] using h
  | .vec b ver sz lo m, v, hb, h => by
    have hb : n b = true := by simpa [D.under] using hb
    refine ⟨h.1, fun n' p' e => ?_⟩
    obtain ⟨n1, p1, e1, l1, q1⟩ := s.τ b hb n' p' e
    obtain ⟨h1, h2⟩ := h.2 _ _ e1
    refine ⟨Nat.le_trans h1 l1, fun he => ?_⟩
    have hn : n1 = n' := by omega
    have := q1 hn
    subst this
    subst hn
    exact h2 he
  | .vref b ver sz i, v, hb, h => by
    have hb : n b = true := by simpa [D.under] using hb
    refine ⟨h.1, fun n' p' e => ?_⟩
    obtain ⟨n1, p1, e1, l1, q1⟩ := s.τ b hb n' p' e
    obtain ⟨h1, h2⟩ := h.2 _ _ e1
    refine ⟨Nat.le_trans h1 l1, fun he => ?_⟩
    have hn : n1 = n' := by omega
    have := q1 hn
    subst this
    subst hn
    exact h2 he
  | .junk, _, _, _ => trivial
theorem RdL.mono {n c w c' w'} (s : Step n c w c' w') : ∀ (ds : List D) (vs : List Value), underL n ds = true → RdL c w ds vs → RdL c' w' ds vs
  | [], [], _, _ => trivial
  | d :: ds, v :: vs, hb, h => by
    have hb : d.under n = true ∧ underL n ds = true := by simpa [underL] using hb
    exact ⟨Rd.mono s d v hb.1 h.1, RdL.mono s ds vs hb.2 h.2⟩
  | [], _ :: _, _, h => h.elim
  | _ :: _, [], _, h => h.elim
end

/-- where a block of the heap lies. -/
def place (c : Cx) (b : Nat) : Blk → Option Nat
  | .cells _ _ => some (c.ρ b)
  | .tok _ _ _ => match c.τ b with | some (_, some (g, _)) => some g | _ => none
  | .vec _ _ _ _ => match c.τ b with | some (_, some (g, _)) => some g | _ => none
  | .map _ _ => some (c.ρ b)

/-- a map's entries, in whatever order. -/
structure MapRel (K : Nat → Nat → Prop) (w : World) (kd : TD) (m : MapF) (arr : Array MapEntry) (clock : Nat) : Prop where
  e : ∀ e ∈ arr.toList, ∃ k x, keyOk kd k = true ∧ Rp K w k e.key ∧ m k = some x ∧ Rp K w x e.val
  a : ∀ k x, keyOk kd k = true → m k = some x → ∃ e ∈ arr.toList, Rp K w k e.key
  n : (arr.toList.map (·.key)).Nodup
  b : ∀ e ∈ arr.toList, e.born < clock
  d : (arr.toList.map (·.born)).Nodup
theorem MapRel.mono {K K' : Nat → Nat → Prop} {w w' : World} {kd : TD} {m : MapF} {arr : Array MapEntry} {clock : Nat} (h : MapRel K w kd m arr clock) (s : KStep K w K' w') : MapRel K' w' kd m arr clock :=
  ⟨fun e he => let ⟨k, x, h1, h2, h3, h4⟩ := h.e e he; ⟨k, x, h1, h2.mono s, h3, h4.mono s⟩, fun k x h1 h2 => let ⟨e, h3, h4⟩ := h.a k x h1 h2; ⟨e, h3, h4.mono s⟩, h.n, h.b, h.d⟩

/-- a block's cells begin with the elements of a list. -/
structure VecRel (K : Nat → Nat → Prop) (w : World) (sz : Nat) (xs : List Pd) (cur : Array Value) : Prop where
  s : ∀ x ∈ xs, x.cells.length = sz
  n : xs.length * sz ≤ cur.size
  one : ∀ (t : Nat) (u : Value), t < xs.length * sz → cur[t]? = some u → u.oneCell' = true
  r : ∀ (i : Nat) (x : Pd) (j : Nat) (q : Pd), xs[i]? = some x → x.cells[j]? = some q → ∃ u, cur[i * sz + j]? = some u ∧ Rp K w q u
theorem VecRel.mono {K K' : Nat → Nat → Prop} {w w' : World} {sz : Nat} {xs : List Pd} {cur : Array Value} (h : VecRel K w sz xs cur) (s : KStep K w K' w') : VecRel K' w' sz xs cur :=
  ⟨h.s, h.n, h.one, fun i x j q h1 h2 => by obtain ⟨u, a, b⟩ := h.r i x j q h1 h2; exact ⟨u, a, b.mono s⟩⟩

def BlkRel (c : Cx) (F : Nat → Prop) (w : World) (b : Nat) : Blk → Prop
  | .cells e cs => ∃ vs : List Value, w.heap[c.ρ b]? = some (.cells vs.toArray e (0, 0)) ∧ RdL c w cs vs ∧ (∀ v ∈ vs, v.oneCell' = true) ∧ ¬ F (c.ρ b) ∧ ∀ o, ¬ c.K (c.ρ b) o
  | .tok e sz n => ∃ p, c.τ b = some (n, p) ∧ match p with
    | none => n = 0
    | some (g, cap) => ∃ cur : Array Value, w.heap[g]? = some (.cells cur e (0, 0)) ∧ n ≤ cap ∧ cap ≤ maxLen ∧ cur.size = cap * sz ∧ ¬ F g ∧ ∀ o, n * sz ≤ o → ¬ c.K g o
  | .vec e sz ver xs => ∃ p, c.τ b = some (ver, p) ∧ match p with
    | none => xs = []
    | some (g, cap) => ∃ cur : Array Value, w.heap[g]? = some (.cells cur e (0, 0)) ∧ VecRel c.K w sz xs cur ∧ cap ≤ maxLen ∧ cur.size = cap * sz ∧ ¬ F g ∧ ∀ o, ¬ c.K g o
  | .map kd m => ∃ (arr : Array MapEntry) (clock : Nat), w.heap[c.ρ b]? = some (.map arr clock) ∧ MapRel c.K w kd m arr clock ∧ ¬ F (c.ρ b) ∧ ∀ o, ¬ c.K (c.ρ b) o

/-- the world's part of the relation. -/
structure WRel (n0 : Nat) (d0 : Nat → Prop) (H : Heap) (nx : Ids) (c : Cx) (F : Nat → Prop) (w : World) : Prop where
  blk : ∀ b k, H b = some k → BlkRel c F w b k
  inj : ∀ b b' k k' g, H b = some k → H b' = some k' → place c b k = some g → place c b' k' = some g → b = b'
  bh : ∀ b k, H b = some k → nx b = true ∧ k.under nx = true
  dm : ∀ b k, H b = some k → b < n0 → d0 b
  n0 : ∀ b, b < n0 → nx b = true
  kb : ∀ g o, c.K g o → g < w.heap.size
  fb : ∀ g, F g → g < w.heap.size

theorem WRel.le0 {n0 d0 H nx c F w} (h : WRel n0 d0 H nx c F w) : (below n0).le nx := fun b hb => h.n0 b (below_iff.1 hb)

/-- the world outside the heap stands. -/
structure SameIO (w w' : World) : Prop where
  os : w'.os = w.os
  tape : w'.tape = w.tape
  output : w'.output = w.output
  drawn : w.drawn ≤ w'.drawn
theorem SameIO.refl (w : World) : SameIO w w := ⟨rfl, rfl, rfl, Nat.le_refl _⟩
theorem SameIO.trans {a b c : World} (h : SameIO a b) (k : SameIO b c) : SameIO a c := ⟨k.os.trans h.os, k.tape.trans h.tape, k.output.trans h.output, Nat.le_trans h.drawn k.drawn⟩

/-- what a piece of code leaves of what is not its own. -/
structure Later (n0 : Nat) (d0 : Nat → Prop) (F : Nat → Prop) (c : Cx) (w : World) (c' : Cx) (w' : World) : Prop where
  s : Step (below n0) c w c' w'
  f : ∀ g, F g → w'.heap[g]? = w.heap[g]?
  kf : ∀ g o, c'.K g o → c.K g o ∨ ¬ F g
  sz : w.heap.size ≤ w'.heap.size
  τ0 : ∀ b, b < n0 → ¬ d0 b → c'.τ b = c.τ b
  io : SameIO w w'

theorem Later.refl (n0 d0 F c w) : Later n0 d0 F c w c w :=
  ⟨Step.refl _ _ _, fun _ _ => rfl, fun _ _ h => .inl h, Nat.le_refl _, fun _ _ _ => rfl, SameIO.refl _⟩
theorem Later.trans {n0 d0 F c w c1 w1 c2 w2} (h : Later n0 d0 F c w c1 w1) (h2 : Later n0 d0 F c1 w1 c2 w2) : Later n0 d0 F c w c2 w2 :=
  ⟨h.s.trans h2.s, fun g hg => (h2.f g hg).trans (h.f g hg), fun g o hk => (h2.kf g o hk).elim (fun h1 => h.kf g o h1) .inr,
   Nat.le_trans h.sz h2.sz, fun b hb hd => (h2.τ0 b hb hd).trans (h.τ0 b hb hd), h.io.trans h2.io⟩

structure Rel (N n0 : Nat) (d0 : Nat → Prop) (A : Tmps) (H : Heap) (nx : Ids) (c : Cx) (F : Nat → Prop) (a : Act) (w : World) : Prop where
  dn : a.defers = []
  sz : a.tmps.size = N
  tm : ∀ t, Rd c w (A t) (a.tmps.getD t undef)
  bt : ∀ t, (A t).under nx = true
  wr : WRel n0 d0 H nx c F w

end Qa

namespace Qa
open Go

def takeE {α : Type} : Nat → List α → Option (List α)
  | 0, _ => some []
  | _ + 1, [] => none
  | n + 1, x :: xs => match takeE n xs with | some r => some (x :: r) | none => none

def loadCs (t : TI) (cs : List D) (K : D → Prop) : Prop :=
  match t.d with
  | .bad => stuckP "load: type"
  | .struct _ => match takeE t.size cs with | some ds => K (mkAgg ds) | none => stuckP "load: size"
  | .arr _ _ _ => match takeE t.size cs with | some ds => K (mkAgg ds) | none => stuckP "load: size"
  | _ => match cs with | c :: _ => force c K | [] => stuckP "load: no cell"

def loadPs (t : TI) (cs : List Pd) (K : D → Prop) : Prop :=
  match t.d with
  | .bad => stuckP "load: type"
  | .struct _ => match takeE t.size cs with | some ds => K (.p (.agg ds)) | none => stuckP "load: size"
  | .arr _ _ _ => match takeE t.size cs with | some ds => K (.p (.agg ds)) | none => stuckP "load: size"
  | _ => match cs with | c :: _ => K (.p c) | [] => stuckP "load: no cell"

def loadK (T : Ty) (t : TypeId) (a : D) (H : Heap) (K : D → Fp → Prop) : Prop :=
  match a with
  | .ref b o => match H b with
    | some (.cells _ cs) => loadCs (T t) (cs.drop o) fun d => K d ⟨[b], []⟩
    | _ => stuckP "load: block"
  | .xref b o => match H b with
    | some (.cells _ cs) => match (T t).d with
      | .bad => stuckP "load: type"
      | .struct _ => stuckP "load: struct at a computed index"
      | .arr _ _ _ => stuckP "load: array at a computed index"
      | _ => getD cs o fun d => force d fun d => K d ⟨[b], []⟩
    | _ => stuckP "load: block"
  | .cptr cs => loadPs (T t) cs fun d => K d fp0
  | _ => stuckP "load"

/-- the cells from o on replaced. -/
def splice : List D → Nat → List D → Option (List D)
  | cs, 0, [] => some cs
  | [], 0, _ :: _ => none
  | _ :: cs, 0, d :: ds => match splice cs 0 ds with | some r => some (d :: r) | none => none
  | [], _ + 1, _ => none
  | c :: cs, n + 1, ds => match splice cs n ds with | some r => some (c :: r) | none => none

def allOne : List D → Bool
  | [] => true
  | d :: ds => match d.one with | true => allOne ds | false => false

def storeK (T : Ty) (t : TypeId) (a x : D) (H : Heap) (K : Heap → Fp → Prop) : Prop :=
  match (T t).good with
  | false => stuckP "store: type"
  | true => match a with
  | .ref b o => match H b with
    | some (.cells e cs) => match allOne x.cells with
      | true => match Nat.beq x.cells.length (T t).size with
        | true => match splice cs o x.cells with
          | some cs' => K (hset H b (.cells e cs')) ⟨[], [b]⟩
          | none => stuckP "store: size"
        | false => stuckP "store: type's size"
      | false => stuckP "store: cells"
    | _ => stuckP "store: block"
  | .xref b o => match H b with
    | some (.cells e cs) => match x.one with
      | true => match Nat.beq (T t).size 1 with
        | true => needP (o < cs.length) (K (hset H b (.cells e (cs.set o x))) ⟨[], [b]⟩)
        | false => stuckP "store: type's size"
      | false => stuckP "store: cell"
    | _ => stuckP "store: block"
  | _ => stuckP "store"

def intK (op : BinOp) (k : IntKind) (a b : Int) (K : D → Prop) : Prop :=
  match op with
  | .add => wrapP k (a + b) fun r => K (.p (.int k r))
  | .sub => wrapP k (a - b) fun r => K (.p (.int k r))
  | .mul => wrapP k (a * b) fun r => K (.p (.int k r))
  | .quo => needP (b ≠ 0) (wrapP k (a.tdiv b) fun r => K (.p (.int k r)))
  | .rem => needP (b ≠ 0) (K (.p (.int k (a.tmod b))))
  | .eql => K (.p (.bool (decide (a = b))))
  | .neq => K (.p (.bool (!decide (a = b))))
  | .lss => K (.p (.bool (decide (a < b))))
  | .leq => K (.p (.bool (decide (a ≤ b))))
  | .gtr => K (.p (.bool (decide (b < a))))
  | .geq => K (.p (.bool (decide (b ≤ a))))
  | _ => stuckP "binop"

def binK (T : Ty) (t : TypeId) (op : BinOp) (x y : D) (K : D → Prop) : Prop :=
  match x with
  | .p (.int k a) => match y with
    | .p (.int k' b) => match op with
      | .shl => stuckP "shl"
      | .shr => stuckP "shr"
      | op => match kEq k k' with
        | true => intK op k a b K
        | false => stuckP "binop: kinds"
    | _ => stuckP "binop: int"
  | .p (.bool a) => match y with
    | .p (.bool b) => match (T t).d with
      | .bool => match op with
        | .eql => K (.p (.bool (a == b)))
        | .neq => K (.p (.bool (a != b)))
        | _ => stuckP "binop"
      | _ => stuckP "binop"
    | _ => stuckP "binop"
  | .nilsl => match y with
    | .nilsl => match (T t).d with
      | .slice _ _ _ => match op with
        | .eql => K (.p (.bool true))
        | .neq => K (.p (.bool false))
        | _ => stuckP "binop"
      | _ => stuckP "binop"
    | _ => stuckP "binop: slices"
  | .p (.list xs) => match y with
    | .nilsl => match (T t).d with
      | .slice _ _ _ => needP (xs ≠ []) (match op with
        | .eql => K (.p (.bool false))
        | .neq => K (.p (.bool true))
        | _ => stuckP "binop")
      | _ => stuckP "binop"
    | _ => stuckP "binop: slices"
  | _ => stuckP "binop"

def fieldK (T : Ty) (s : TypeId) (x : D) (j : Nat) (K : D → Prop) : Prop :=
  match (T s).d with
  | .struct fs => match fs[j]? with
    | some (off, sz) => match Nat.blt 0 sz with
      | true => match x with
        | .ref b o => K (.ref b (o + off))
        | .cptr cs => K (.cptr (cs.drop off))
        | _ => stuckP "fieldAddr"
      | false => stuckP "fieldAddr: no cells"
    | none => stuckP "fieldAddr"
  | _ => stuckP "fieldAddr"

def indexK (T : Ty) (t : TypeId) (x i : D) (K : D → Prop) : Prop :=
  match i with
  | .p (.int _ n) => match (T t).d with
    | .slice _ sz _ => match x with
      | .p (.list xs) => getP xs n sz fun x => K (.cptr x.cells)
      | .full xs => getP xs n sz fun x => K (.cptr x.cells)
      | .acc _ xs => getP xs n sz fun x => K (.cptr x.cells)
      | .ms b sz' lo len _ => match Nat.beq sz sz' with
        | true => needP (0 ≤ n ∧ n < len) (K (.xref b (lo + n.toNat * sz)))
        | false => stuckP "indexAddr"
      | _ => stuckP "indexAddr"
    | .arr len _ sz => match x with
      | .ref b o => needP (0 ≤ n ∧ n < len) (K (.xref b (o + n.toNat * sz)))
      | .xref b o => needP (0 ≤ n ∧ n < len) (K (.xref b (o + n.toNat * sz)))
      | _ => stuckP "indexAddr"
    | _ => stuckP "indexAddr"
  | _ => stuckP "indexAddr"

def nilK (x : D) (K : D → Prop) : Prop :=
  match x with
  | .ref b o => K (.ref b o)
  | .xref b o => K (.xref b o)
  | .cptr cs => K (.cptr cs)
  | _ => stuckP "nilCheck"

def pickK (c a b : D) (K : D → Prop) : Prop :=
  match c with
  | .p (.bool c) => match a with
    | .p (.bool x) => match b with
      | .p (.bool y) => K (.p (.bool (bif c then x else y)))
      | b => condB c (K (.p (.bool x))) (force b K)
    | a => condB c (force a K) (force b K)
  | _ => stuckP "pick"

def lenK (x : D) (K : D → Prop) : Prop :=
  match x with
  | .p (.list xs) => K (.p (.int .i64 (xs.length : Int)))
  | .full xs => K (.p (.int .i64 (xs.length : Int)))
  | .acc _ xs => K (.p (.int .i64 (xs.length : Int)))
  | .nilsl => K (.p (.int .i64 0))
  | .ms _ _ _ n _ => K (.p (.int .i64 (n : Int)))
  | .p (.str s) => K (.p (.int .i64 (s.size : Int)))
  | _ => stuckP "len"

def extractK (t : D) (i : Nat) (K : D → Prop) : Prop :=
  match t with
  | .tup ds => match ds[i]? with
    | some d => force d K
    | none => stuckP "extract"
  | _ => stuckP "extract"
end Qa

namespace Qa
open Go

/-- the operation comes to a value. -/
def OpWp (P : Program) (o : Oper) (a : Act) (w : World) (R : Value → World → Prop) : Prop :=
  ∀ (Q : Exit → Act → World → Prop) (K : Act → World → Prop), (∀ v w', R v w' → K (a.put o.dst v) w') → o.wp P a w K Q

def Evs (c : Cx) (w : World) (nx : Ids) (A : Tmps) (a : Act) (o : Op) : Prop :=
  ∀ x ∈ o.operands, Rd c w (ev A x) (a.eval x) ∧ (ev A x).under nx = true

/-- what an operation does, said of the abstract state. -/
def OpOut (P : Program) (o : Op) (A : Tmps) (H : Heap) (nx : Ids) (d : D) (H' : Heap) (nx' : Ids) : Prop :=
  nx.le nx' ∧ ∀ (oo : Oper) (n0 : Nat) (d0 F : Nat → Prop) (c : Cx) (a : Act) (w : World), oo.op = o → Evs c w nx A a o → WRel n0 d0 H nx c F w →
    OpWp P oo a w fun v w' => d.under nx' = true ∧ ∃ c', Rd c' w' d v ∧ WRel n0 d0 H' nx' c' F w' ∧ Step nx c w c' w' ∧ Later n0 d0 F c w c' w'

theorem OpOut.value {P : Program} {o : Op} {A : Tmps} {H : Heap} {nx : Ids} {d : D}
    (h : ∀ (oo : Oper) (n0 : Nat) (d0 F : Nat → Prop) (c : Cx) (a : Act) (w : World), oo.op = o → Evs c w nx A a o → WRel n0 d0 H nx c F w →
      d.under nx = true ∧ ∃ v, (execOp a.eval oo).run P w = .ok (.value v) w ∧ Rd c w d v) : OpOut P o A H nx d H nx := by
  refine ⟨Ids.le.refl _, fun oo n0 d0 F c a w ho he hw Q K hK => ?_⟩
  obtain ⟨hd, v, hv, hr⟩ := h oo n0 d0 F c a w ho he hw
  unfold Oper.wp
  rw [hv]
  exact hK v w ⟨hd, c, hr, hw, Step.refl _ _ _, Later.refl _ _ _ _ _⟩

/-- the same where the world changes. -/
theorem OpOut.run {P : Program} {o : Op} {A : Tmps} {H H' : Heap} {nx nx' : Ids} {d : D} (hn : nx.le nx')
    (h : ∀ (oo : Oper) (n0 : Nat) (d0 F : Nat → Prop) (c : Cx) (a : Act) (w : World), oo.op = o → Evs c w nx A a o → WRel n0 d0 H nx c F w →
      d.under nx' = true ∧ ∃ v w', ((execOp a.eval oo).run P w = .ok (.value v) w' ∨ ((execOp a.eval oo).run P w = .ok .skip w' ∧ v = undef)) ∧
        ∃ c', Rd c' w' d v ∧ WRel n0 d0 H' nx' c' F w' ∧ Step nx c w c' w' ∧ Later n0 d0 F c w c' w') : OpOut P o A H nx d H' nx' := by
  refine ⟨hn, fun oo n0 d0 F c a w ho he hw Q K hK => ?_⟩
  obtain ⟨hd, v, w', hv, hr⟩ := h oo n0 d0 F c a w ho he hw
  unfold Oper.wp
  rcases hv with hv | ⟨hv, rfl⟩
  · rw [hv]; exact hK v w' ⟨hd, hr⟩
  · rw [hv]; exact hK undef w' ⟨hd, hr⟩

theorem add_none (g o j : Nat) : (⟨g, o, none⟩ : Addr).add j = ⟨g, o + j, none⟩ := by
  unfold Addr.add; split <;> simp_all

-- types
def vEq : D → Value → Bool
  | .p (.int k n), .int k' n' => k == k' && n == n'
  | .p (.bool b), .bool b' => b == b'
  | .p (.str s), .string s' => s.data.toList.isEmpty && s'.data.toList.isEmpty
  | .nilsl, .slice none 0 0 => true
  | .nilptr, .pointer none => true
  | .nilfn, .nilFunc => true
  | .nilmap, .map none => true
  | .junk, v => v.oneCell'
  | _, _ => false
def vEqL : List D → List Value → Bool
  | [], [] => true
  | d :: ds, v :: vs => vEq d v && vEqL ds vs
  | _, _ => false

def zagg (i : TI) : Value → Bool
  | .agg _ => i.isAgg
  | _ => !i.isAgg

structure TyOk1 (P : Program) (t : TypeId) (i : TI) : Prop where
  info : i.d ≠ .bad → ∃ f z, P.info? t = some f ∧ f.size = i.size ∧ f.zero = some z ∧ vEqL i.zero z.cells.toList = true ∧ i.zero.length = i.size
  und : match i.d with
    | .int k => P.underlying t = some (.int k)
    | .bool => P.underlying t = some .bool
    | .str => P.underlying t = some .string
    | .struct fs => ∃ fields, P.underlying t = some (.struct fields) ∧ fields.size = fs.length ∧ ∀ (j off sz : Nat), fs[j]? = some (off, sz) →
        ∃ f i, fields[j]? = some f ∧ f.offset = off ∧ P.info? f.type = some i ∧ i.size = sz
    | .slice e sz by_ => P.underlying t = some (.slice e) ∧ ∃ i z, P.info? e = some i ∧ i.size = sz ∧ i.bytes = by_ ∧ i.zero = some z ∧ z.cells.size = sz
    | .arr n e sz => P.underlying t = some (.array n e) ∧ ∃ i, P.info? e = some i ∧ i.size = sz
    | .ptr => ∃ e, P.underlying t = some (.pointer e)
    | .func => ∃ a b v, P.underlying t = some (.func a b v)
    | .map k e => P.underlying t = some (.map k e)
    | .other => ∃ d, P.underlying t = some d ∧ (∀ fs, d ≠ .struct fs) ∧ ∀ n e, d ≠ .array n e
    | .bad => True
  zag : i.d ≠ .bad → ∀ f z, P.info? t = some f → f.zero = some z → zagg i z = true

def TyOk (P : Program) (T : Ty) : Prop := ∀ t, TyOk1 P t (T t)

theorem vEq_rd {d : D} {v : Value} (c : Cx) (w : World) (h : vEq d v = true) : Rd c w d v ∧ v.oneCell' = true := by
  unfold vEq at h
  split at h <;> try simp only [Bool.and_eq_true, beq_iff_eq] at h
  case h_1 => obtain ⟨rfl, rfl⟩ := h; exact ⟨.int _ _, rfl⟩
  case h_2 => subst h; exact ⟨.bool _, rfl⟩
  case h_3 =>
    rename_i s s'
    have e : s = s' := by
      obtain ⟨h1, h2⟩ := h
      cases s; cases s'
      simp only [ByteArray.mk.injEq]
      apply Array.toList_inj.1
      simp at h1 h2
      simp [h1, h2]
    subst e; exact ⟨.str _, rfl⟩
  case h_8 => exact ⟨trivial, h⟩
  all_goals first | exact ⟨rfl, rfl⟩ | (simp at h)

theorem vEqL_rd (c : Cx) (w : World) : ∀ (ds : List D) (vs : List Value), vEqL ds vs = true → RdL c w ds vs ∧ ∀ v ∈ vs, v.oneCell' = true
  | [], [], _ => ⟨trivial, by simp⟩
  | d :: ds, v :: vs, h => by
    simp only [vEqL, Bool.and_eq_true] at h
    obtain ⟨h1, h2⟩ := h
    obtain ⟨a, b⟩ := vEq_rd c w h1
    obtain ⟨a', b'⟩ := vEqL_rd c w ds vs h2
    exact ⟨⟨a, a'⟩, by simpa using ⟨b, b'⟩⟩
  | [], _ :: _, h => by simp [vEqL] at h
  | _ :: _, [], h => by simp [vEqL] at h

theorem RdL_len {c w} : ∀ {ds : List D} {vs : List Value}, RdL c w ds vs → ds.length = vs.length
  | [], [], _ => rfl
  | _ :: ds, _ :: vs, h => by simp [RdL_len (ds := ds) (vs := vs) h.2]
  | [], _ :: _, h => h.elim
  | _ :: _, [], h => h.elim

theorem RdL_get {c w} : ∀ {ds : List D} {vs : List Value}, RdL c w ds vs → ∀ {j : Nat} {d : D}, ds[j]? = some d → ∃ v, vs[j]? = some v ∧ Rd c w d v
  | d :: ds, v :: vs, h, 0, e, he => by simp at he; subst he; exact ⟨v, rfl, h.1⟩
  | d :: ds, v :: vs, h, j + 1, e, he => by simp at he; simpa using RdL_get h.2 he
  | [], _, _, _, _, he => by simp at he
  | _ :: _, [], h, _, _, _ => h.elim

theorem RdL_mk {c w} : ∀ {ds : List D} {vs : List Value}, ds.length = vs.length → (∀ (j : Nat) (d : D) (v : Value), ds[j]? = some d → vs[j]? = some v → Rd c w d v) → RdL c w ds vs
  | [], [], _, _ => trivial
  | d :: ds, v :: vs, hl, h => ⟨h 0 d v rfl rfl, RdL_mk (by simpa using hl) fun j d v h1 h2 => h (j + 1) d v (by simpa using h1) (by simpa using h2)⟩
  | [], _ :: _, hl, _ => by simp at hl
  | _ :: _, [], hl, _ => by simp at hl

theorem RdL_drop {c w} : ∀ {ds : List D} {vs : List Value} (n : Nat), RdL c w ds vs → RdL c w (ds.drop n) (vs.drop n)
  | _, _, 0, h => by simpa using h
  | d :: ds, v :: vs, n + 1, h => by simpa using RdL_drop n h.2
  | [], [], n + 1, _ => by simp [RdL]
  | [], _ :: _, _ + 1, h => h.elim
  | _ :: _, [], _ + 1, h => h.elim

theorem takeE_eq {α : Type} : ∀ {n : Nat} {l r : List α}, takeE n l = some r → r = l.take n ∧ n ≤ l.length
  | 0, l, r, h => by simp [takeE] at h; simp [← h]
  | n + 1, [], r, h => by simp [takeE] at h
  | n + 1, x :: xs, r, h => by
    simp only [takeE] at h
    cases hk : takeE n xs with
    | none => simp [hk] at h
    | some r' =>
      simp [hk] at h
      obtain ⟨e1, e2⟩ := takeE_eq hk
      subst h
      subst e1
      exact ⟨by simp, by simpa using e2⟩

theorem RdL_take {c w} : ∀ {ds : List D} {vs : List Value} (n : Nat), RdL c w ds vs → RdL c w (ds.take n) (vs.take n)
  | _, _, 0, _ => by simp [RdL]
  | d :: ds, v :: vs, n + 1, h => by simpa using ⟨h.1, RdL_take n h.2⟩
  | [], [], n + 1, _ => by simp [RdL]
  | [], _ :: _, _ + 1, h => h.elim
  | _ :: _, [], _ + 1, h => h.elim

theorem allPd_eq : ∀ {ds : List D} {xs : List Pd}, allPd ds = some xs → ds = xs.map D.p
  | [], xs, h => by simp [allPd] at h; simp [← h]
  | .p x :: ds, xs, h => by
    simp only [allPd] at h
    cases hk : allPd ds with
    | none => simp [hk] at h
    | some r => simp [hk] at h; subst h; simp [allPd_eq hk]
  | .nilsl :: _, _, h | .full _ :: _, _, h | .acc _ _ :: _, _, h | .ref _ _ :: _, _, h | .xref _ _ :: _, _, h | .cptr _ :: _, _, h | .ms _ _ _ _ _ :: _, _, h
  | .agg _ :: _, _, h | .tup _ :: _, _, h | .fn _ _ _ :: _, _, h | .nilptr :: _, _, h | .nilfn :: _, _, h | .nilmap :: _, _, h | .map _ :: _, _, h | .vec _ _ _ _ _ :: _, _, h | .vref _ _ _ _ :: _, _, h | .junk :: _, _, h => by simp [allPd] at h

theorem Rd_mkAgg {c : Cx} {w : World} {ds : List D} {vs : List Value} (h : RdL c w ds vs) (h1 : ∀ v ∈ vs, v.oneCell' = true) : Rd c w (mkAgg ds) (.agg vs.toArray) := by
  unfold mkAgg
  split
  · rename_i xs hx
    have e := allPd_eq hx
    subst e
    refine .agg xs vs (by simpa using RdL_len h) h1 fun j x v hx hv => ?_
    obtain ⟨v', hv', hr⟩ := RdL_get h (j := j) (d := .p x) (by simp [hx])
    rw [hv] at hv'
    cases hv'
    exact hr
  · exact ⟨vs, rfl, h⟩

theorem underL_take {n : Ids} : ∀ {ds : List D} (k : Nat), underL n ds = true → underL n (ds.take k) = true
  | _, 0, _ => by simp [underL]
  | [], _ + 1, _ => by simp [underL]
  | d :: ds, k + 1, h => by
    have h : d.under n = true ∧ underL n ds = true := by simpa [underL] using h
    simpa [underL] using ⟨h.1, underL_take k h.2⟩
theorem underL_drop {n : Ids} : ∀ {ds : List D} (k : Nat), underL n ds = true → underL n (ds.drop k) = true
  | _, 0, h => by simpa using h
  | [], _ + 1, _ => by simp [underL]
  | d :: ds, k + 1, h => by
    have h : d.under n = true ∧ underL n ds = true := by simpa [underL] using h
    simpa using underL_drop k h.2
theorem underL_get {n : Ids} : ∀ {ds : List D} {k : Nat} {d : D}, underL n ds = true → ds[k]? = some d → d.under n = true
  | d :: ds, 0, e, h, he => by
    have h : d.under n = true ∧ underL n ds = true := by simpa [underL] using h
    simp at he; subst he; exact h.1
  | d :: ds, k + 1, e, h, he => by
    have h : d.under n = true ∧ underL n ds = true := by simpa [underL] using h
    simp at he; exact underL_get h.2 he
  | [], _, _, _, he => by simp at he
theorem underL_mk {n : Ids} : ∀ {ds : List D}, (∀ d ∈ ds, d.under n = true) → underL n ds = true
  | [], _ => by simp [underL]
  | d :: ds, h => by simp only [underL, Bool.and_eq_true]; exact ⟨h d (by simp), underL_mk fun d hd => h d (by simp [hd])⟩
theorem mkAgg_under {n : Ids} {ds : List D} (h : underL n ds = true) : (mkAgg ds).under n = true := by
  unfold mkAgg
  split
  · simp [D.under]
  · simpa [D.under] using h

mutual
theorem under_le {n m : Ids} (hm : n.le m) : ∀ (d : D), d.under n = true → d.under m = true
  | .acc b _, h | .ref b _, h | .xref b _, h | .ms b _ _ _ _, h | .map b, h | .vec b _ _ _ _, h | .vref b _ _ _, h => by
    simp only [D.under] at h ⊢; exact hm b h
  | .agg cs, h => by simp only [D.under] at h ⊢; exact underL_le hm cs h
  | .tup cs, h => by simp only [D.under] at h ⊢; exact underL_le hm cs h
  | .fn _ a b, h => by
    simp only [D.under, Bool.and_eq_true] at h ⊢; exact ⟨underL_le hm a h.1, underL_le hm b h.2⟩
  | .p _, _ | .nilsl, _ | .full _, _ | .cptr _, _ | .nilptr, _ | .nilfn, _ | .nilmap, _ | .junk, _ => by simp [D.under]
theorem underL_le {n m : Ids} (hm : n.le m) : ∀ (ds : List D), underL n ds = true → underL m ds = true
  | [], _ => by simp [underL]
  | d :: ds, h => by
    simp only [underL, Bool.and_eq_true] at h ⊢
    exact ⟨under_le hm d h.1, underL_le hm ds h.2⟩
end

theorem Blk.under_le {n m : Ids} (hm : n.le m) (k : Blk) (h : k.under n = true) : k.under m = true := by
  cases k with
  | cells e cs => simp only [Blk.under] at h ⊢; exact underL_le hm cs h
  | tok e sz n => simp [Blk.under]
  | vec e sz ver cs => rfl
  | map kd m => rfl

-- evaluation
theorem Rd_ofVal (c : Cx) (w : World) (v : Value) : Rd c w (ofVal v) v := by
  unfold ofVal
  split <;> first | exact .int _ _ | exact .bool _ | exact .str _ | exact rfl | trivial

theorem ofVal_under (n : Ids) (v : Value) : (ofVal v).under n = true := by
  unfold ofVal
  split <;> simp [D.under]

theorem Rel.ev {N n0 d0 A H nx c F a w} (h : Rel N n0 d0 A H nx c F a w) (x : Operand) : Rd c w (ev A x) (a.eval x) ∧ (ev A x).under nx = true := by
  cases x with
  | tmp t => exact ⟨h.tm t, h.bt t⟩
  | const v => exact ⟨Rd_ofVal c w v, ofVal_under nx v⟩
  | global g => exact ⟨trivial, rfl⟩
  | func f => exact ⟨⟨[], [], rfl, trivial, trivial⟩, rfl⟩

end Qa

namespace Qa
open Go

theorem info_run {P : Program} {t : TypeId} {i : TypeInfo} (h : P.info? t = some i) (w : World) : (typeInfo t).run P w = .ok i w := by
  simp [typeInfo, h]

def aggDesc : TypeDesc → Bool
  | .struct _ => true
  | .array _ _ => true
  | _ => false

theorem isAgg_run {P : Program} {t : TypeId} {d : TypeDesc} (h : P.underlying t = some d) (w : World) :
    (isAgg t).run P w = .ok (aggDesc d) w := by
  unfold isAgg
  simp only [Sem.run_bind, run_underlying h, Result.andThen_ok]
  cases d <;> simp [aggDesc]

/-- a variable of a type that is no struct and no array is one cell. -/
theorem run_loadVar_one {P : Program} {T : Ty} (hT : TyOk P T) {t : TypeId} (h1 : (T t).d ≠ .bad) (h2 : ∀ fs, (T t).d ≠ .struct fs) (h3 : ∀ n e s, (T t).d ≠ .arr n e s)
    (w : World) (g o : Nat) (v : Value) (hc : w.cell? ⟨g, o, none⟩ = some v) : (loadVar t ⟨g, o, none⟩).run P w = .ok v w := by
  have hu := (hT t).und
  have : ∃ d, P.underlying t = some d ∧ aggDesc d = false := by
    cases hd : (T t).d with
    | struct fs => exact absurd hd (h2 fs)
    | arr n e s => exact absurd hd (h3 n e s)
    | bad => exact absurd hd h1
    | int k => rw [hd] at hu; exact ⟨_, hu, rfl⟩
    | bool => rw [hd] at hu; exact ⟨_, hu, rfl⟩
    | map k e => rw [hd] at hu; exact ⟨_, hu, rfl⟩
    | str => rw [hd] at hu; exact ⟨_, hu, rfl⟩
    | slice e s b => rw [hd] at hu; exact ⟨_, hu.1, rfl⟩
    | ptr => rw [hd] at hu; obtain ⟨e, he⟩ := hu; exact ⟨_, he, rfl⟩
    | func => rw [hd] at hu; obtain ⟨a, b, v, he⟩ := hu; exact ⟨_, he, rfl⟩
    | other =>
      rw [hd] at hu
      obtain ⟨d, he, hs, ha⟩ := hu
      refine ⟨d, he, ?_⟩
      cases d <;> first | rfl | exact absurd rfl (hs _) | exact absurd rfl (ha _ _)
  obtain ⟨d, hd, hn⟩ := this
  unfold loadVar
  simp only [Sem.run_bind, isAgg_run hd, Result.andThen_ok, hn]
  simp [load, Sem.run, hc]

theorem run_loadVar_agg {P : Program} {T : Ty} (hT : TyOk P T) {t : TypeId} (h : (∃ fs, (T t).d = .struct fs) ∨ ∃ n e s, (T t).d = .arr n e s)
    (w : World) (g o : Nat) (vs : List Value) (hl : vs.length = (T t).size) (hc : ∀ (j : Nat) (v : Value), vs[j]? = some v → w.cell? ⟨g, o + j, none⟩ = some v) :
    (loadVar t ⟨g, o, none⟩).run P w = .ok (.agg vs.toArray) w := by
  have hu := (hT t).und
  have hb : (T t).d ≠ .bad := by rcases h with ⟨fs, h⟩ | ⟨n, e, s, h⟩ <;> simp [h]
  obtain ⟨f, z, hf, hs, _⟩ := (hT t).info hb
  have : ∃ d, P.underlying t = some d ∧ aggDesc d = true := by
    rcases h with ⟨fs, h⟩ | ⟨n, e, s, h⟩
    · rw [h] at hu; obtain ⟨fields, he, _⟩ := hu; exact ⟨_, he, rfl⟩
    · rw [h] at hu; exact ⟨_, hu.1, rfl⟩
  obtain ⟨d, hd, hn⟩ := this
  have hl' := run_loadCells_list (P := P) (w := w) ⟨g, o, none⟩ vs (fun j v hv => by rw [add_none]; exact hc j v hv)
  unfold loadVar
  simp only [Sem.run_bind, isAgg_run hd, Result.andThen_ok, hn, if_true, Go.sizeOf, info_run hf, Sem.run_pure, hs, ← hl, hl']

theorem cells_at {c : Cx} {w : World} {g : Nat} {vs : List Value} {e : TypeId} (h : w.heap[g]? = some (.cells vs.toArray e (0, 0))) {o : Nat} {v : Value} (hv : vs[o]? = some v) :
    w.cell? ⟨g, o, none⟩ = some v := by
  rw [cell_of_row w g o _ _ _ h]; simpa using hv

theorem loadCs_sound {P : Program} {T : Ty} (hT : TyOk P T) {t : TypeId} {cs : List D} {K : D → Prop} (h : loadCs (T t) cs K) :
    ∃ d, K d ∧ ∀ (n : Ids) (c : Cx) (w : World) (g o : Nat) (vs : List Value), underL n cs = true → RdL c w cs vs → (∀ v ∈ vs, v.oneCell' = true) →
      (∀ (j : Nat) (v : Value), vs[j]? = some v → w.cell? ⟨g, o + j, none⟩ = some v) → d.under n = true ∧ ∃ v, (loadVar t ⟨g, o, none⟩).run P w = .ok v w ∧ Rd c w d v := by
  have agg : ∀ (h : (∃ fs, (T t).d = .struct fs) ∨ ∃ n e s, (T t).d = .arr n e s) (ds : List D) (hk : takeE (T t).size cs = some ds) (n : Ids) (c : Cx) (w : World) (g o : Nat) (vs : List Value),
      underL n cs = true → RdL c w cs vs → (∀ v ∈ vs, v.oneCell' = true) →
      (∀ (j : Nat) (v : Value), vs[j]? = some v → w.cell? ⟨g, o + j, none⟩ = some v) → (mkAgg ds).under n = true ∧ ∃ v, (loadVar t ⟨g, o, none⟩).run P w = .ok v w ∧ Rd c w (mkAgg ds) v := by
    intro h ds hk n c w g o vs hu hr h1 hc
    obtain ⟨rfl, hle⟩ := takeE_eq hk
    have hlen := RdL_len hr
    refine ⟨mkAgg_under (underL_take _ hu), _, run_loadVar_agg hT h w g o (vs.take (T t).size) (by simp; omega) (fun j v hv => hc j v ?_), Rd_mkAgg (RdL_take _ hr) fun v hv => h1 v (List.mem_of_mem_take hv)⟩
    rw [List.getElem?_take] at hv
    split at hv
    · exact hv
    · cases hv
  have one : ∀ (h1 : (T t).d ≠ .bad) (h2 : ∀ fs, (T t).d ≠ .struct fs) (h3 : ∀ n e s, (T t).d ≠ .arr n e s) (d : D) (r : List D), cs = d :: r → ∀ (n : Ids) (c : Cx) (w : World) (g o : Nat) (vs : List Value),
      underL n cs = true → RdL c w cs vs → (∀ v ∈ vs, v.oneCell' = true) →
      (∀ (j : Nat) (v : Value), vs[j]? = some v → w.cell? ⟨g, o + j, none⟩ = some v) → d.under n = true ∧ ∃ v, (loadVar t ⟨g, o, none⟩).run P w = .ok v w ∧ Rd c w d v := by
    intro h1 h2 h3 d r e n c w g o vs hu hr _ hc
    subst e
    obtain ⟨v, hv, hd⟩ := RdL_get hr (j := 0) (d := d) rfl
    exact ⟨underL_get hu (k := 0) rfl, v, run_loadVar_one hT h1 h2 h3 w g o v (by simpa using hc 0 v hv), hd⟩
  unfold loadCs at h
  cases hd : (T t).d with
  | bad => simp [hd, stuckP] at h
  | struct fs =>
    simp only [hd] at h
    cases hk : takeE (T t).size cs with
    | none => simp [hk, stuckP] at h
    | some ds => simp only [hk] at h; exact ⟨_, h, agg (.inl ⟨fs, hd⟩) ds hk⟩
  | arr m e s =>
    simp only [hd] at h
    cases hk : takeE (T t).size cs with
    | none => simp [hk, stuckP] at h
    | some ds => simp only [hk] at h; exact ⟨_, h, agg (.inr ⟨m, e, s, hd⟩) ds hk⟩
  | _ =>
    simp only [hd] at h
    cases cs with
    | nil => simp [stuckP] at h
    | cons d r =>
      simp only [force_iff] at h
      exact ⟨d, h, one (by simp [hd]) (by simp [hd]) (by simp [hd]) d r rfl⟩

theorem loadPs_sound {P : Program} {T : Ty} (hT : TyOk P T) {t : TypeId} {cs : List Pd} {K : D → Prop} (h : loadPs (T t) cs K) :
    ∃ d, K d ∧ (∀ n, d.under n = true) ∧ ∀ (c : Cx) (w : World) (g o : Nat) (u : Nat → Value),
      (∀ (j : Nat) (x : Pd), cs[j]? = some x → c.K g (o + j) ∧ w.cell? ⟨g, o + j, none⟩ = some (u j) ∧ (u j).oneCell' = true ∧ Rp c.K w x (u j)) →
      ∃ v, (loadVar t ⟨g, o, none⟩).run P w = .ok v w ∧ Rd c w d v := by
  have agg : ∀ (h : (∃ fs, (T t).d = .struct fs) ∨ ∃ n e s, (T t).d = .arr n e s) (ds : List Pd) (hk : takeE (T t).size cs = some ds) (c : Cx) (w : World) (g o : Nat) (u : Nat → Value),
      (∀ (j : Nat) (x : Pd), cs[j]? = some x → c.K g (o + j) ∧ w.cell? ⟨g, o + j, none⟩ = some (u j) ∧ (u j).oneCell' = true ∧ Rp c.K w x (u j)) →
      ∃ v, (loadVar t ⟨g, o, none⟩).run P w = .ok v w ∧ Rd c w (.p (.agg ds)) v := by
    intro h ds hk c w g o u hc
    obtain ⟨rfl, hle⟩ := takeE_eq hk
    have key : ∀ (j : Nat), j < (T t).size → ∃ x, cs[j]? = some x := fun j hj => ⟨cs[j]'(by omega), by simp⟩
    refine ⟨_, run_loadVar_agg hT h w g o ((List.range (T t).size).map u) (by simp) (fun j v hv => ?_), .agg _ _ (by simp; omega) (fun v hv => ?_) fun j x v hx hv => ?_⟩
    · obtain ⟨hj, e⟩ := List.getElem?_eq_some_iff.1 hv
      simp at hj e
      subst e
      obtain ⟨x, hx⟩ := key j hj
      exact (hc j x hx).2.1
    · simp only [List.mem_map, List.mem_range] at hv
      obtain ⟨j, hj, rfl⟩ := hv
      obtain ⟨x, hx⟩ := key j hj
      exact (hc j x hx).2.2.1
    · rw [List.getElem?_take] at hx
      split at hx
      · rename_i hj
        simp [List.getElem?_map, List.getElem?_range hj] at hv
        subst hv
        exact (hc j x hx).2.2.2
      · cases hx
  have one : ∀ (h1 : (T t).d ≠ .bad) (h2 : ∀ fs, (T t).d ≠ .struct fs) (h3 : ∀ n e s, (T t).d ≠ .arr n e s) (x : Pd) (r : List Pd), cs = x :: r → ∀ (c : Cx) (w : World) (g o : Nat) (u : Nat → Value),
      (∀ (j : Nat) (x : Pd), cs[j]? = some x → c.K g (o + j) ∧ w.cell? ⟨g, o + j, none⟩ = some (u j) ∧ (u j).oneCell' = true ∧ Rp c.K w x (u j)) →
      ∃ v, (loadVar t ⟨g, o, none⟩).run P w = .ok v w ∧ Rd c w (.p x) v := by
    intro h1 h2 h3 x r e c w g o u hc
    subst e
    have := hc 0 x rfl
    exact ⟨u 0, run_loadVar_one hT h1 h2 h3 w g o _ (by simpa using this.2.1), this.2.2.2⟩
  unfold loadPs at h
  cases hd : (T t).d with
  | bad => simp [hd, stuckP] at h
  | struct fs =>
    simp only [hd] at h
    cases hk : takeE (T t).size cs with
    | none => simp [hk, stuckP] at h
    | some ds => simp only [hk] at h; exact ⟨_, h, fun _ => rfl, agg (.inl ⟨fs, hd⟩) ds hk⟩
  | arr m e s =>
    simp only [hd] at h
    cases hk : takeE (T t).size cs with
    | none => simp [hk, stuckP] at h
    | some ds => simp only [hk] at h; exact ⟨_, h, fun _ => rfl, agg (.inr ⟨m, e, s, hd⟩) ds hk⟩
  | _ =>
    simp only [hd] at h
    cases cs with
    | nil => simp [stuckP] at h
    | cons x r => exact ⟨.p x, h, fun _ => rfl, one (by simp [hd]) (by simp [hd]) (by simp [hd]) x r rfl⟩

theorem execOp_load {o : Oper} {t : TypeId} {x : Operand} (ho : o.op = .load t x) (a : Act) (P : Program) (w : World) (g b : Nat) (v : Value)
    (hx : a.eval x = .pointer (some ⟨g, b, none⟩)) (hr : (loadVar t ⟨g, b, none⟩).run P w = .ok v w) : (execOp a.eval o).run P w = .ok (.value v) w := by
  unfold execOp
  simp only [ho, Instr.loadAt, Instr.sureAddr, hx, Sem.run_bind, Sem.run_pure, Result.andThen_ok, hr]

theorem loadK_sound {P : Program} {T : Ty} (hT : TyOk P T) {t : TypeId} {x : Operand} {A : Tmps} {H : Heap} {K : D → Fp → Prop}
    (h : loadK T t (ev A x) H K) : ∃ d fp, K d fp ∧ ∀ (nx : Ids) (H2 : Heap), (∀ b ∈ fp.r ++ fp.w, H2 b = H b) → OpOut P (.load t x) A H2 nx d H2 nx := by
  unfold loadK at h
  split at h
  · rename_i b o hx
    split at h
    · rename_i e cs hb
      obtain ⟨d, hk, hs⟩ := loadCs_sound hT h
      refine ⟨d, ⟨[b], []⟩, hk, fun nx H2 hH2 => .value fun oo n0 d0 F c a w ho he hw => ?_⟩
      obtain ⟨hr, hu⟩ := he x (by simp [Op.operands])
      rw [hx] at hr
      have hb2 := (hH2 b (by simp)).trans hb
      obtain ⟨vs, hv, hrl, h1, _⟩ := hw.blk b _ hb2
      have hun : underL nx cs = true := by simpa [Blk.under] using (hw.bh b _ hb2).2
      obtain ⟨hd, v, hv', hrd⟩ := hs nx c w (c.ρ b) o (vs.drop o) (underL_drop o hun) (RdL_drop o hrl) (fun v hv => h1 v (List.mem_of_mem_drop hv))
        (fun j v hj => cells_at (c := c) hv (by simpa using hj))
      exact ⟨hd, v, execOp_load ho a P w _ _ v hr hv', hrd⟩
    · simp [stuckP] at h
  · rename_i b o hx
    split at h
    · rename_i e cs hb
      have key : ∀ (h1 : (T t).d ≠ .bad) (h2 : ∀ fs, (T t).d ≠ .struct fs) (h3 : ∀ n e s, (T t).d ≠ .arr n e s), (getD cs o fun d => force d fun d => K d ⟨[b], []⟩) →
          ∃ d fp, K d fp ∧ ∀ (nx : Ids) (H2 : Heap), (∀ b ∈ fp.r ++ fp.w, H2 b = H b) → OpOut P (.load t x) A H2 nx d H2 nx := by
        intro h1 h2 h3 hg
        simp only [getD_iff] at hg
        obtain ⟨d, hd, hk⟩ := hg
        rw [force_iff] at hk
        refine ⟨d, ⟨[b], []⟩, hk, fun nx H2 hH2 => .value fun oo n0 d0 F c a w ho he hw => ?_⟩
        obtain ⟨hr, hu⟩ := he x (by simp [Op.operands])
        rw [hx] at hr
        have hb2 := (hH2 b (by simp)).trans hb
        obtain ⟨vs, hv, hrl, _, _⟩ := hw.blk b _ hb2
        have hun : underL nx cs = true := by simpa [Blk.under] using (hw.bh b _ hb2).2
        obtain ⟨v, hv', hrd⟩ := RdL_get hrl hd
        exact ⟨underL_get hun hd, v, execOp_load ho a P w _ _ v hr (run_loadVar_one hT h1 h2 h3 w _ _ v (cells_at (c := c) hv hv')), hrd⟩
      cases hd : (T t).d <;> simp only [hd] at h <;> first
        | (simp [stuckP] at h; done)
        | exact key (by simp [hd]) (by simp [hd]) (by simp [hd]) h
    · simp [stuckP] at h
  · rename_i cs hx
    obtain ⟨d, hk, hun, hs⟩ := loadPs_sound hT h
    refine ⟨d, fp0, hk, fun nx H2 hH2 => .value fun oo n0 d0 F c a w ho he hw => ?_⟩
    obtain ⟨hr, hu⟩ := he x (by simp [Op.operands])
    rw [hx] at hr
    obtain ⟨g, o, u, hr, hc⟩ := hr
    obtain ⟨v, hv, hd⟩ := hs c w g o u hc
    exact ⟨hun nx, v, execOp_load ho a P w g o v hr hv, hd⟩
  · simp [stuckP] at h
end Qa

namespace Qa
open Go

theorem hset_same (H : Heap) (b : Nat) (k : Blk) : hset H b k b = some k := by simp [hset]
theorem hset_ne (H : Heap) {b x : Nat} (k : Blk) (h : x ≠ b) : hset H b k x = H x := by
  have : Nat.beq x b = false := by cases hb : Nat.beq x b <;> simp_all
  simp [hset, this]
theorem hset_some {H : Heap} {b x : Nat} {k k' : Blk} (h : hset H b k x = some k') : (x = b ∧ k' = k) ∨ (x ≠ b ∧ H x = some k') := by
  by_cases e : x = b
  · subst e; rw [hset_same] at h; exact .inl ⟨rfl, (Option.some.inj h).symm⟩
  · rw [hset_ne H k e] at h; exact .inr ⟨e, h⟩

theorem RdL.mono' {n c w c' w'} (s : Step n c w c' w') {ds : List D} {vs : List Value} (hb : underL n ds = true) (h : RdL c w ds vs) : RdL c' w' ds vs := RdL.mono s ds vs hb h

theorem BlkRel.mono {c c' : Cx} {F : Nat → Prop} {w w' : World} {b : Nat} {nx : Ids} {k : Blk} (h : BlkRel c F w b k) (s : Step nx c w c' w') (hb : nx b = true) (hu : k.under nx = true)
    (hh : ∀ g, place c b k = some g → w'.heap[g]? = w.heap[g]?) (hK : ∀ g o, place c b k = some g → c'.K g o → c.K g o) (hτ : c'.τ b = c.τ b) : BlkRel c' F w' b k := by
  cases k with
  | cells e cs =>
    obtain ⟨vs, h1, h2, h3, h4, h5⟩ := h
    refine ⟨vs, ?_, RdL.mono' s (by simpa [Blk.under] using hu) h2, h3, ?_, ?_⟩
    · rw [s.ρ b hb, hh _ rfl]; exact h1
    · rw [s.ρ b hb]; exact h4
    · rw [s.ρ b hb]; exact fun o hk => h5 o (hK _ _ rfl hk)
  | tok e sz n =>
    obtain ⟨p, h1, h2⟩ := h
    refine ⟨p, by rw [hτ]; exact h1, ?_⟩
    cases p with
    | none => exact h2
    | some q =>
      obtain ⟨g, cap⟩ := q
      obtain ⟨cur, a1, a2, a3, a4, a5, a6⟩ := h2
      have hp : place c b (.tok e sz n) = some g := by simp [place, h1]
      exact ⟨cur, by rw [hh g hp]; exact a1, a2, a3, a4, a5, fun o ho hk => a6 o ho (hK _ _ hp hk)⟩
  | vec e sz ver cs =>
    obtain ⟨p, h1, h2⟩ := h
    refine ⟨p, by rw [hτ]; exact h1, ?_⟩
    cases p with
    | none => exact h2
    | some q =>
      obtain ⟨g, cap⟩ := q
      obtain ⟨cur, a1, a2, a3, a4, a5, a6⟩ := h2
      have hp : place c b (.vec e sz ver cs) = some g := by simp [place, h1]
      exact ⟨cur, by rw [hh g hp]; exact a1, a2.mono s.k, a3, a4, a5, fun o hk => a6 o (hK _ _ hp hk)⟩
  | map kd m =>
    obtain ⟨arr, clock, h1, h2, h3, h4⟩ := h
    refine ⟨arr, clock, ?_, h2.mono s.k, ?_, ?_⟩
    · rw [s.ρ b hb, hh _ rfl]; exact h1
    · rw [s.ρ b hb]; exact h3
    · rw [s.ρ b hb]; exact fun o hk => h4 o (hK _ _ rfl hk)

theorem place_mono {c c' : Cx} {b : Nat} {k : Blk} (h1 : c'.ρ b = c.ρ b) (h2 : c'.τ b = c.τ b) : place c' b k = place c b k := by
  cases k <;> simp [place, h1, h2]

theorem BlkRel.place_lt {c : Cx} {F : Nat → Prop} {w : World} {b : Nat} {k : Blk} (h : BlkRel c F w b k) {g : Nat} (hp : place c b k = some g) : g < w.heap.size ∧ ¬ F g := by
  cases k with
  | cells e cs =>
    obtain ⟨vs, h1, _, _, h4, _⟩ := h
    simp [place] at hp; subst hp
    exact ⟨(Array.getElem?_eq_some_iff.1 h1).1, h4⟩
  | tok e sz n =>
    obtain ⟨p, h1, h2⟩ := h
    cases p with
    | none => simp [place, h1] at hp
    | some q =>
      obtain ⟨g', cap⟩ := q
      simp [place, h1] at hp
      subst hp
      obtain ⟨cur, a1, _, _, _, a5, _⟩ := h2
      exact ⟨(Array.getElem?_eq_some_iff.1 a1).1, a5⟩
  | vec e sz ver cs =>
    obtain ⟨p, h1, h2⟩ := h
    cases p with
    | none => simp [place, h1] at hp
    | some q =>
      obtain ⟨g', cap⟩ := q
      simp [place, h1] at hp
      subst hp
      obtain ⟨cur, a1, _, _, _, a5, _⟩ := h2
      exact ⟨(Array.getElem?_eq_some_iff.1 a1).1, a5⟩
  | map kd m =>
    obtain ⟨arr, clock, h1, h2, h3, h4⟩ := h
    simp [place] at hp; subst hp
    exact ⟨(Array.getElem?_eq_some_iff.1 h1).1, h3⟩

theorem cell_lt {w : World} {g o : Nat} {v : Value} (h : w.cell? ⟨g, o, none⟩ = some v) : g < w.heap.size := World.block_lt_of_cell? w _ h

theorem KStep.alloc (K : Nat → Nat → Prop) (w : World) (o : Obj) : KStep K w K (w.alloc o) := fun g _ hk => ⟨hk, fun _ hu => by
  rw [World.cell?_alloc_lt (h := cell_lt hu)]; exact hu⟩

def Cx.bind (c : Cx) (b g : Nat) : Cx := { c with ρ := fun x => if x = b then g else c.ρ x, τ := fun x => if x = b then none else c.τ x }

theorem ne_of_ids {V : Ids} {a b : Nat} (ha : V a = true) (hb : V b = false) : a ≠ b := fun e => by subst e; rw [ha] at hb; cases hb

theorem Step.bind (nx : Ids) (b : Nat) (hb : nx b = false) (c : Cx) (w w' : World) (g : Nat) (hk : KStep c.K w c.K w') : Step nx c w (c.bind b g) w' :=
  ⟨hk, fun x hx => by simp [Cx.bind, ne_of_ids hx hb], fun x hx => by simp only [Cx.bind, ne_of_ids hx hb, if_false]; exact tgrow.refl _⟩

/-- a new block. -/
theorem WRel.alloc {n0 d0 H nx c F w} (h : WRel n0 d0 H nx c F w) (nb : Nat) (hnb : nx nb = false) (e : TypeId) (cs : List D) (vs : List Value) (hr : RdL c w cs vs) (h1 : ∀ v ∈ vs, v.oneCell' = true) (hu : underL nx cs = true) :
    WRel n0 d0 (hset H nb (.cells e cs)) (iadd nx nb) (c.bind nb w.heap.size) F (w.alloc (.cells vs.toArray e)) ∧
    Step nx c w (c.bind nb w.heap.size) (w.alloc (.cells vs.toArray e)) ∧ Later n0 d0 F c w (c.bind nb w.heap.size) (w.alloc (.cells vs.toArray e)) := by
  have hs : Step nx c w (c.bind nb w.heap.size) (w.alloc (.cells vs.toArray e)) := Step.bind nx nb hnb c w _ _ (KStep.alloc _ _ _)
  have hold : ∀ b k, H b = some k → place (c.bind nb w.heap.size) b k = place c b k := fun b k hb => by
    have := ne_of_ids (h.bh b k hb).1 hnb
    exact place_mono (by simp [Cx.bind, this]) (by simp [Cx.bind, this])
  have hn0 : n0 ≤ nb := by
    rcases Nat.lt_or_ge nb n0 with hlt | hge
    · exact absurd rfl (ne_of_ids (h.n0 nb hlt) hnb)
    · exact hge
  refine ⟨⟨fun b k hb => ?_, fun b b' k k' g hb hb' hp hp' => ?_, fun b k hb => ?_, fun b k hb hlt => ?_, fun b hb => iadd_le nx nb b (h.n0 b hb), fun g o hk => ?_, fun g hg => ?_⟩, hs, hs.le fun b hb => h.n0 b (below_iff.1 hb), fun g hg => ?_, fun g o hk => .inl hk, by simp, fun b hb hd => ?_, ⟨rfl, rfl, rfl, by first | exact Nat.le_refl _ | exact Nat.le_succ _⟩⟩
  · rcases hset_some hb with ⟨rfl, rfl⟩ | ⟨hne, hb⟩
    · refine ⟨vs, by simp only [Cx.bind, if_true]; exact heap_alloc_new w _, RdL.mono' hs hu hr, h1, ?_, ?_⟩
      · simp only [Cx.bind, if_true]; exact fun hf => Nat.lt_irrefl _ (h.fb _ hf)
      · simp only [Cx.bind, if_true]; exact fun o hk => Nat.lt_irrefl _ (h.kb _ _ hk)
    · obtain ⟨hlt, hun⟩ := h.bh b k hb
      refine (h.blk b k hb).mono hs hlt hun (fun g hp => heap_alloc_old w _ ((h.blk b k hb).place_lt hp).1) (fun g o _ hk => hk) (by simp [Cx.bind, ne_of_ids hlt hnb])
  · rcases hset_some hb with ⟨rfl, rfl⟩ | ⟨hne, hb0⟩ <;> rcases hset_some hb' with ⟨rfl, rfl⟩ | ⟨hne', hb'⟩
    · rfl
    · rw [hold _ _ hb'] at hp'
      simp [place, Cx.bind] at hp
      have := ((h.blk _ _ hb').place_lt hp').1
      omega
    · rw [hold _ _ hb0] at hp
      simp [place, Cx.bind] at hp'
      have := ((h.blk _ _ hb0).place_lt hp).1
      omega
    · rw [hold _ _ hb0] at hp
      rw [hold _ _ hb'] at hp'
      exact h.inj b b' k k' g hb0 hb' hp hp'
  · rcases hset_some hb with ⟨rfl, rfl⟩ | ⟨hne, hb⟩
    · exact ⟨iadd_self _ _, by simpa [Blk.under] using underL_le (iadd_le _ _) _ hu⟩
    · exact ⟨iadd_le _ _ _ (h.bh b k hb).1, Blk.under_le (iadd_le _ _) k (h.bh b k hb).2⟩
  · rcases hset_some hb with ⟨rfl, rfl⟩ | ⟨hne, hb⟩
    · omega
    · exact h.dm b k hb hlt
  · have := h.kb g o hk; simp; omega
  · have := h.fb g hg; simp; omega
  · exact heap_alloc_old w _ (h.fb g hg)
  · simp [Cx.bind, show b ≠ nb by omega]

theorem Pd.cells_rp {c : Cx} {w : World} {x : Pd} {v : Value} (h : Rp c.K w x v) : RdL c w (x.cells.map D.p) v.cells.toList ∧ ∀ u ∈ v.cells.toList, u.oneCell' = true := by
  cases h with
  | agg cs vs hl h1 h =>
    refine ⟨RdL_mk (by simpa [Pd.cells, Value.cells] using hl) fun j d v hd hv => ?_, by simpa [Value.cells] using h1⟩
    simp only [Pd.cells, List.getElem?_map, Option.map_eq_some_iff] at hd
    obtain ⟨x, hx, rfl⟩ := hd
    exact h j x v hx (by simpa [Value.cells] using hv)
  | int k n => exact ⟨⟨.int k n, trivial⟩, by simp [Value.cells, Value.oneCell']⟩
  | bool b => exact ⟨⟨.bool b, trivial⟩, by simp [Value.cells, Value.oneCell']⟩
  | str s => exact ⟨⟨.str s, trivial⟩, by simp [Value.cells, Value.oneCell']⟩
  | nil => exact ⟨⟨.nil, trivial⟩, by simp [Value.cells, Value.oneCell']⟩
  | nila a => exact ⟨⟨.nila a, trivial⟩, by simp [Value.cells, Value.oneCell']⟩
  | list g o cap sz xs u hcap hs hc hr => exact ⟨⟨.list g o cap sz xs u hcap hs hc hr, trivial⟩, by simp [Value.cells, Value.oneCell']⟩

/-- a value that is one cell is one in memory. -/
theorem one_cell {c : Cx} {w : World} {d : D} {v : Value} (h : Rd c w d v) (h1 : d.one = true) : v.oneCell' = true := by
  cases d with
  | p x => cases x <;> (simp [D.one] at h1) <;> (cases h <;> rfl)
  | agg cs => simp [D.one] at h1
  | tup cs => simp [D.one] at h1
  | junk => simp [D.one] at h1
  | nilsl => simp [Rd] at h; subst h; rfl
  | full xs => obtain ⟨_, a, rfl⟩ := h; rfl
  | acc b xs => obtain ⟨h, _⟩ := h; cases h <;> rfl
  | ref b o => simp [Rd] at h; subst h; rfl
  | xref b o => simp [Rd] at h; subst h; rfl
  | cptr cs => obtain ⟨g, o, u, rfl, _⟩ := h; rfl
  | ms b s l n cp => obtain ⟨o, rfl, _⟩ := h; rfl
  | fn f a b => obtain ⟨_, _, rfl, _⟩ := h; rfl
  | nilptr => simp [Rd] at h; subst h; rfl
  | nilfn => simp [Rd] at h; subst h; rfl
  | nilmap => simp [Rd] at h; subst h; rfl
  | map b => simp [Rd] at h; subst h; rfl
  | vec b ver sz lo n => obtain ⟨⟨a, k, rfl⟩, _⟩ := h; rfl
  | vref b ver sz i => obtain ⟨⟨a, rfl⟩, _⟩ := h; rfl

theorem allOne_spec : ∀ {ds : List D}, allOne ds = true → ∀ d ∈ ds, d.one = true
  | [], _, _, h => by simp at h
  | d :: ds, h, x, hx => by
    simp only [allOne] at h
    split at h
    · rename_i h1
      rcases List.mem_cons.1 hx with rfl | hx
      · exact h1
      · exact allOne_spec h x hx
    · cases h

theorem RdL_one {c w} : ∀ {ds : List D} {vs : List Value}, RdL c w ds vs → allOne ds = true → ∀ v ∈ vs, v.oneCell' = true
  | [], [], _, _, v, hv => by simp at hv
  | d :: ds, u :: vs, h, h1, v, hv => by
    simp only [allOne] at h1
    split at h1
    · rename_i ho
      rcases List.mem_cons.1 hv with rfl | hv
      · exact one_cell h.1 ho
      · exact RdL_one h.2 h1 v hv
    · cases h1
  | [], _ :: _, h, _, _, _ => h.elim
  | _ :: _, [], h, _, _, _ => h.elim

/-- a value's cells, where they are single ones. -/
theorem Rd_cells {c : Cx} {w : World} {d : D} {v : Value} (h : Rd c w d v) (h1 : allOne d.cells = true) : RdL c w d.cells v.cells.toList ∧ ∀ u ∈ v.cells.toList, u.oneCell' = true := by
  cases d with
  | p x => exact Pd.cells_rp h
  | agg cs =>
    obtain ⟨vs, rfl, hr⟩ := h
    exact ⟨by simpa [D.cells, Value.cells] using hr, by simpa [Value.cells] using RdL_one hr h1⟩
  | _ =>
    simp only [D.cells, allOne] at h1
    split at h1
    case h_2 => cases h1
    rename_i ho
    have hv := one_cell h ho
    have e : v.cells = #[v] := by cases v <;> first | rfl | simp [Value.oneCell'] at hv
    rw [e]
    exact ⟨⟨h, trivial⟩, by simpa using hv⟩

theorem cells_under {n : Ids} {d : D} (h : d.under n = true) : underL n d.cells = true := by
  cases d with
  | p x => exact underL_mk fun d hd => by simp [D.cells] at hd; obtain ⟨_, _, rfl⟩ := hd; rfl
  | agg cs => simpa [D.cells, D.under] using h
  | _ => simpa [D.cells, underL] using h

end Qa

namespace Qa
open Go

/-- alloc and box. -/
theorem alloc_sound {P : Program} {T : Ty} (hT : TyOk P T) {t : TypeId} {A : Tmps} {H : Heap} {nx : Ids} {nb : Nat} (hnb : nx nb = false) (hb : (T t).d ≠ .bad) :
    OpOut P (.alloc t) A H nx (.ref nb 0) (hset H nb (.cells t (T t).zero)) (iadd nx nb) := by
  refine .run (iadd_le _ _) fun oo n0 d0 F c a w ho he hw => ⟨by simp [D.under, iadd_self], ?_⟩
  obtain ⟨f, z, hf, hs, hz, hv, hl⟩ := (hT t).info hb
  obtain ⟨hr, h1⟩ := vEqL_rd c w _ _ hv
  have hu : underL nx (T t).zero = true := underL_mk fun d hd => by
    obtain ⟨j, hj⟩ := List.getElem?_of_mem hd
    have : ∀ (ds : List D) (vs : List Value), vEqL ds vs = true → ∀ d ∈ ds, d.under nx = true := by
      intro ds
      induction ds with
      | nil => intro _ _ d hd; simp at hd
      | cons x ds ih =>
        intro vs h d hd
        cases vs with
        | nil => simp [vEqL] at h
        | cons v vs =>
          simp only [vEqL, Bool.and_eq_true] at h
          rcases List.mem_cons.1 hd with rfl | hd
          · have h0 := h.1
            unfold vEq at h0
            split at h0 <;> first | rfl | (simp at h0)
          · exact ih vs h.2 d hd
    exact this _ _ hv d hd
  obtain ⟨hw', hst, hla⟩ := hw.alloc nb hnb t (T t).zero z.cells.toList hr h1 hu
  refine ⟨.pointer (some ⟨w.heap.size, 0, none⟩), _, .inl ?_, _, ?_, hw', hst, hla⟩
  · unfold execOp
    simp only [ho, Instr.alloc, zeroValue, newVar, newRow, run_newObj_alloc, Sem.run_bind, info_run hf, Result.andThen_ok, hz, Sem.run_pure, Array.toArray_toList]
  · simp [Rd, Cx.bind]

theorem box_sound {P : Program} {t : TypeId} {x : Operand} {A : Tmps} {H : Heap} {nx : Ids} {nb : Nat} (hnb : nx nb = false) (h1 : allOne (ev A x).cells = true) :
    OpOut P (.box t x) A H nx (.ref nb 0) (hset H nb (.cells t (ev A x).cells)) (iadd nx nb) := by
  refine .run (iadd_le _ _) fun oo n0 d0 F c a w ho he hw => ⟨by simp [D.under, iadd_self], ?_⟩
  obtain ⟨hr, hu⟩ := he x (by simp [Op.operands])
  obtain ⟨hrl, ho1⟩ := Rd_cells hr h1
  obtain ⟨hw', hst, hla⟩ := hw.alloc nb hnb t (ev A x).cells (a.eval x).cells.toList hrl ho1 (cells_under hu)
  refine ⟨.pointer (some ⟨w.heap.size, 0, none⟩), _, .inl ?_, _, ?_, hw', hst, hla⟩
  · unfold execOp
    simp only [ho, Instr.box, newVar, newRow, run_newObj_alloc, Sem.run_bind, Result.andThen_ok, Sem.run_pure, Array.toArray_toList]
  · simp [Rd, Cx.bind]

/-- a block of the heap gets other cells. -/
theorem WRel.set {n0 d0 H nx c F w} (h : WRel n0 d0 H nx c F w) {b : Nat} {e : TypeId} {cs : List D} (hb : H b = some (.cells e cs)) (cs' : List D) (vs' : List Value)
    (hr : RdL c w cs' vs') (h1 : ∀ v ∈ vs', v.oneCell' = true) (hu : underL nx cs' = true) (w' : World)
    (hw1 : w'.heap[c.ρ b]? = some (.cells vs'.toArray e (0, 0))) (hw2 : ∀ g, g ≠ c.ρ b → w'.heap[g]? = w.heap[g]?) (hw3 : w.heap.size ≤ w'.heap.size) (hio : SameIO w w' := by exact ⟨rfl, rfl, rfl, by first | exact Nat.le_refl _ | exact Nat.le_succ _⟩) :
    WRel n0 d0 (hset H b (.cells e cs')) nx c F w' ∧ Step nx c w c w' ∧ Later n0 d0 F c w c w' := by
  obtain ⟨vs, a1, a2, a3, a4, a5⟩ := h.blk b _ hb
  have hk : KStep c.K w c.K w' := fun g o hk => ⟨hk, fun u hu => by
    have hne : g ≠ c.ρ b := fun e => a5 o (e ▸ hk)
    rw [World.cell?_of_block (w := w) (hw2 g hne)]; exact hu⟩
  have hs : Step nx c w c w' := ⟨hk, fun _ _ => rfl, fun _ _ => tgrow.refl _⟩
  refine ⟨⟨fun x k hx => ?_, fun x x' k k' g hx hx' hp hp' => ?_, fun x k hx => ?_, fun x k hx hlt => ?_, h.n0, fun g o hk => Nat.lt_of_lt_of_le (h.kb g o hk) hw3, fun g hg => Nat.lt_of_lt_of_le (h.fb g hg) hw3⟩,
    hs, hs.le h.le0, fun g hg => hw2 g (fun e => a4 (e ▸ hg)), fun g o hk => .inl hk, hw3, fun _ _ _ => rfl, hio⟩
  · rcases hset_some hx with ⟨rfl, rfl⟩ | ⟨hne, hx⟩
    · exact ⟨vs', hw1, RdL.mono' hs hu hr, h1, a4, a5⟩
    · obtain ⟨hlt, hun⟩ := h.bh x k hx
      refine (h.blk x k hx).mono hs hlt hun (fun g hp => hw2 g fun e => hne ?_) (fun _ _ _ hk => hk) rfl
      exact h.inj x b k _ g hx hb hp (by simp [place, e])
  · have key : ∀ (y : Nat) (l : Blk), hset H b (.cells e cs') y = some l → ∃ l', H y = some l' ∧ place c y l' = place c y l := fun y l hy => by
      rcases hset_some hy with ⟨rfl, rfl⟩ | ⟨_, hy⟩
      · exact ⟨_, hb, rfl⟩
      · exact ⟨_, hy, rfl⟩
    obtain ⟨l, e1, e2⟩ := key _ _ hx
    obtain ⟨l', e1', e2'⟩ := key _ _ hx'
    exact h.inj x x' l l' g e1 e1' (e2 ▸ hp) (e2' ▸ hp')
  · rcases hset_some hx with ⟨rfl, rfl⟩ | ⟨hne, hx⟩
    · exact ⟨(h.bh _ _ hb).1, by simpa [Blk.under] using hu⟩
    · exact h.bh x k hx
  · rcases hset_some hx with ⟨rfl, rfl⟩ | ⟨hne, hx⟩
    · exact h.dm _ _ hb hlt
    · exact h.dm x k hx hlt

theorem splice_eq : ∀ {cs : List D} {o : Nat} {ds cs' : List D}, splice cs o ds = some cs' → o + ds.length ≤ cs.length ∧ cs' = cs.take o ++ ds ++ cs.drop (o + ds.length)
  | cs, 0, [], cs', h => by simp [splice] at h; simp [h]
  | [], 0, _ :: _, cs', h => by simp [splice] at h
  | c :: cs, 0, d :: ds, cs', h => by
    simp only [splice] at h
    cases hk : splice cs 0 ds with
    | none => simp [hk] at h
    | some r =>
      simp [hk] at h
      obtain ⟨h1, h2⟩ := splice_eq hk
      subst h
      subst h2
      simp at h1
      refine ⟨by simp; omega, by simp⟩
  | [], _ + 1, ds, cs', h => by simp [splice] at h
  | c :: cs, n + 1, ds, cs', h => by
    simp only [splice] at h
    cases hk : splice cs n ds with
    | none => simp [hk] at h
    | some r =>
      simp [hk] at h
      obtain ⟨h1, h2⟩ := splice_eq hk
      subst h
      subst h2
      refine ⟨by simp; omega, ?_⟩
      rw [show n + 1 + ds.length = (n + ds.length) + 1 by omega]
      simp

theorem RdL_append {c w} : ∀ {ds es : List D} {vs us : List Value}, RdL c w ds vs → RdL c w es us → RdL c w (ds ++ es) (vs ++ us)
  | [], _, [], _, _, h => by simpa using h
  | _ :: ds, es, _ :: vs, us, h, h2 => ⟨h.1, RdL_append h.2 h2⟩
  | [], _, _ :: _, _, h, _ => h.elim
  | _ :: _, _, [], _, h, _ => h.elim
theorem underL_append {n : Ids} : ∀ {ds es : List D}, underL n ds = true → underL n es = true → underL n (ds ++ es) = true
  | [], _, _, h => by simpa using h
  | d :: ds, es, h, h2 => by
    simp only [underL, Bool.and_eq_true, List.cons_append] at h ⊢
    exact ⟨h.1, underL_append h.2 h2⟩
theorem RdL_set {c w} : ∀ {ds : List D} {vs : List Value} (i : Nat) {d : D} {v : Value}, RdL c w ds vs → Rd c w d v → RdL c w (ds.set i d) (vs.set i v)
  | _ :: _, _ :: _, 0, _, _, h, hd => ⟨hd, h.2⟩
  | _ :: _, _ :: _, i + 1, _, _, h, hd => ⟨h.1, RdL_set i h.2 hd⟩
  | [], [], _, _, _, _, _ => trivial
  | [], _ :: _, _, _, _, h, _ => h.elim
  | _ :: _, [], _, _, _, h, _ => h.elim
theorem underL_set {n : Ids} : ∀ {ds : List D} (i : Nat) {d : D}, underL n ds = true → d.under n = true → underL n (ds.set i d) = true
  | [], _, _, _, _ => by simp [underL]
  | _ :: ds, 0, d, h, hd => by simp only [underL, Bool.and_eq_true, List.set_cons_zero] at h ⊢; exact ⟨hd, h.2⟩
  | _ :: ds, i + 1, d, h, hd => by simp only [underL, Bool.and_eq_true, List.set_cons_succ] at h ⊢; exact ⟨h.1, underL_set i h.2 hd⟩

theorem storeK_sound {P : Program} {T : Ty} (hT : TyOk P T) {t : TypeId} {x y : Operand} {A : Tmps} {H : Heap} {K : Heap → Fp → Prop}
    (h : storeK T t (ev A x) (ev A y) H K) : ∃ b blk, K (hset H b blk) ⟨[], [b]⟩ ∧ ∀ (nx : Ids) (H2 : Heap), H2 b = H b → OpOut P (.store t x y) A H2 nx (.tup []) (hset H2 b blk) nx := by
  have fin : ∀ (nx : Ids) (H : Heap) (b o : Nat) (e : TypeId) (cs cs' : List D), (ev A x = .ref b o ∨ ev A x = .xref b o) → H b = some (.cells e cs) → allOne (ev A y).cells = true → (ev A y).cells.length = (T t).size →
      (T t).d ≠ .bad → o + (ev A y).cells.length ≤ cs.length → cs' = cs.take o ++ (ev A y).cells ++ cs.drop (o + (ev A y).cells.length) →
      OpOut P (.store t x y) A H nx (.tup []) (hset H b (.cells e cs')) nx := by
    intro nx H b o e cs cs' hx hb h1 hl hbad hle hcs
    refine .run (Ids.le.refl _) fun oo n0 d0 F c a w ho he hw => ⟨rfl, ?_⟩
    obtain ⟨hrx, _⟩ := he x (by simp [Op.operands])
    obtain ⟨hry, hyu⟩ := he y (by simp [Op.operands])
    have hxv : a.eval x = .pointer (some ⟨c.ρ b, o, none⟩) := by
      rcases hx with hx | hx <;> (rw [hx] at hrx; exact hrx)
    obtain ⟨hrl, ho1⟩ := Rd_cells hry h1
    obtain ⟨vs, a1, a2, a3, a4, a5⟩ := hw.blk b _ hb
    have hlv := RdL_len a2
    have hly := RdL_len hrl
    obtain ⟨f, z, hf, hsz, _⟩ := (hT t).info hbad
    have hst := run_storeCells_at (P := P) (c.ρ b) o e (a.eval y).cells.toList 0 vs.toArray w a1 (by simp at hly ⊢; omega) ho1
    have hvs' : vs.take o ++ (a.eval y).cells.toList ++ vs.drop (o + (a.eval y).cells.toList.length) = vs.take o ++ (a.eval y).cells.toList ++ vs.drop (o + (ev A y).cells.length) := by rw [hly]
    have hrun : (execOp a.eval oo).run P w = .ok .skip (w.setRow (c.ρ b) (vs.take o ++ (a.eval y).cells.toList ++ vs.drop (o + (ev A y).cells.length)).toArray) := by
      unfold execOp
      simp only [ho, Instr.storeAt, Instr.sureAddr, storeVar, hxv, Sem.run_bind, Sem.run_pure, Result.andThen_ok, Go.sizeOf, info_run hf]
      have hne : ¬ (a.eval y).cells.size ≠ f.size := by simp at hly; omega
      rw [if_neg hne]
      simp only [Nat.add_zero] at hst
      rw [hst, ← hvs']
      rfl
    have hr' : RdL c w cs' (vs.take o ++ (a.eval y).cells.toList ++ vs.drop (o + (ev A y).cells.length)) := by
      subst hcs
      exact RdL_append (RdL_append (RdL_take o a2) hrl) (RdL_drop _ a2)
    have hun : underL nx cs = true := by simpa [Blk.under] using (hw.bh b _ hb).2
    obtain ⟨hw', hs, hla⟩ := hw.set hb cs' _ hr' (fun v hv => by
        simp only [List.mem_append] at hv
        rcases hv with (hv | hv) | hv
        · exact a3 v (List.mem_of_mem_take hv)
        · exact ho1 v hv
        · exact a3 v (List.mem_of_mem_drop hv)) (by subst hcs; exact underL_append (underL_append (underL_take _ hun) (cells_under hyu)) (underL_drop _ hun))
      (w.setRow (c.ρ b) (vs.take o ++ (a.eval y).cells.toList ++ vs.drop (o + (ev A y).cells.length)).toArray) (setRow_heap w _ _ _ e _ a1) (fun g hg => setRow_other w _ _ _ hg) (by simp [World.setRow])
    exact ⟨undef, _, .inr ⟨hrun, rfl⟩, c, ⟨[], rfl, trivial⟩, hw', hs, hla⟩
  unfold storeK at h
  split at h
  · simp [stuckP] at h
  rename_i hgood
  have hgood := TI.good_ne hgood
  split at h
  · rename_i b o hx
    split at h
    · rename_i e cs hb
      split at h
      · rename_i h1
        split at h
        · rename_i h2
          have h2 : (ev A y).cells.length = (T t).size := Nat.eq_of_beq_eq_true h2
          split at h
          · rename_i h0 cs' h3
            refine ⟨b, _, h, fun nx H2 hH2 => ?_⟩
            obtain ⟨h4, h5⟩ := splice_eq h3
            exact fin nx H2 b o e cs cs' (.inl hx) (hH2.trans hb) h1 h2 hgood h4 h5
          · simp [stuckP] at h
        · simp [stuckP] at h
      · simp [stuckP] at h
    · simp [stuckP] at h
  · rename_i b o hx
    split at h
    · rename_i e cs hb
      split at h
      · rename_i h1
        split at h
        · rename_i h2
          have h2 : (T t).size = 1 := Nat.eq_of_beq_eq_true h2
          simp only [needP_iff] at h
          obtain ⟨hlt, h⟩ := h
          refine ⟨b, _, h, fun nx H2 hH2 => ?_⟩
          have hcl : (ev A y).cells = [ev A y] := by
            cases hy : ev A y <;> simp [hy, D.one] at h1 <;> first | rfl | skip
            rename_i x
            cases x <;> simp at h1 <;> rfl
          refine fin nx H2 b o e cs _ (.inr hx) (hH2.trans hb) (by rw [hcl]; simp [allOne, h1]) (by rw [hcl, h2]; rfl) hgood (by rw [hcl]; simp; omega) ?_
          · rw [hcl, List.set_eq_take_append_cons_drop, if_pos hlt]; simp
        · simp [stuckP] at h
      · simp [stuckP] at h
    · simp [stuckP] at h
  · simp [stuckP] at h

end Qa

namespace Qa
open Go

theorem exec_val {P : Program} {o : Oper} {a : Act} {w : World} {s : Sem Value} {v : Value} (h : execOp a.eval o = (do pure (.value (← s)))) (hs : s.run P w = .ok v w) :
    (execOp a.eval o).run P w = .ok (.value v) w := by
  rw [h]; simp only [Sem.run_bind, hs, Result.andThen_ok, Sem.run_pure]

theorem Rp.int_inv {K w k n v} (h : Rp K w (.int k n) v) : v = .int k n := by cases h; rfl
theorem Rp.bool_inv {K w b v} (h : Rp K w (.bool b) v) : v = .bool b := by cases h; rfl
theorem Rp.str_inv {K w s v} (h : Rp K w (.str s) v) : v = .string s := by cases h; rfl

theorem move_sound {P : Program} {x : Operand} {A : Tmps} {H : Heap} {nx : Ids} {o : Op} (ho : o = .move x ∨ o = .assign x) : OpOut P o A H nx (ev A x) H nx := by
  refine .value fun oo n0 d0 F c a w h he hw => ?_
  have hx : x ∈ o.operands := by rcases ho with rfl | rfl <;> simp [Op.operands]
  obtain ⟨hr, hu⟩ := he x hx
  refine ⟨hu, a.eval x, ?_, hr⟩
  unfold execOp
  rcases ho with rfl | rfl <;> simp only [h, Sem.run_pure]

theorem pickK_sound {P : Program} {c x y : Operand} {A : Tmps} {K : D → Prop} (h : pickK (ev A c) (ev A x) (ev A y) K) :
    ∃ d, K d ∧ ∀ (nx : Ids) (H : Heap), OpOut P (.pick c x y) A H nx d H nx := by
  unfold pickK at h
  split at h
  case h_2 => simp [stuckP] at h
  rename_i b hc
  have key : ∀ (nx : Ids) (H : Heap), OpOut P (.pick c x y) A H nx (if b then ev A x else ev A y) H nx := by
    intro nx H
    refine .value fun oo n0 d0 F cx a w ho he hw => ?_
    obtain ⟨hrc, _⟩ := he c (by simp [Op.operands])
    obtain ⟨hrx, hux⟩ := he x (by simp [Op.operands])
    obtain ⟨hry, huy⟩ := he y (by simp [Op.operands])
    rw [hc] at hrc
    have hcv : a.eval c = .bool b := Rp.bool_inv hrc
    refine ⟨by cases b <;> assumption, if b then a.eval x else a.eval y, ?_, by cases b <;> assumption⟩
    unfold execOp
    simp only [ho, hcv, asBool, Sem.run_bind, Sem.run_pure, Result.andThen_ok]
  split at h
  · rename_i xb hx
    split at h
    · rename_i yb hy
      refine ⟨_, h, ?_⟩
      have e : (if b then ev A x else ev A y) = D.p (.bool (bif b then xb else yb)) := by cases b <;> simp [hx, hy]
      rw [← e]; exact key
    · refine ⟨_, ?_, key⟩
      cases b
      · simpa [condB, force_iff] using h
      · simpa [condB, force_iff, hx] using h
  · refine ⟨_, ?_, key⟩
    cases b
    · simpa [condB, force_iff] using h
    · simpa [condB, force_iff] using h

theorem nilK_sound {P : Program} {x : Operand} {A : Tmps} {K : D → Prop} (h : nilK (ev A x) K) : ∃ d, K d ∧ ∀ (nx : Ids) (H : Heap), OpOut P (.nilCheck x) A H nx d H nx := by
  have key : (∃ b o, ev A x = .ref b o ∨ ev A x = .xref b o) ∨ (∃ cs, ev A x = .cptr cs) → ∀ (nx : Ids) (H : Heap), OpOut P (.nilCheck x) A H nx (ev A x) H nx := by
    intro hx nx H
    refine .value fun oo n0 d0 F cx a w ho he hw => ?_
    obtain ⟨hr, hu⟩ := he x (by simp [Op.operands])
    have : ∃ ad, a.eval x = .pointer (some ad) := by
      rcases hx with ⟨b, o, hx | hx⟩ | ⟨cs, hx⟩
      · rw [hx] at hr; exact ⟨_, hr⟩
      · rw [hx] at hr; exact ⟨_, hr⟩
      · rw [hx] at hr; obtain ⟨g, o, u, hr, _⟩ := hr; exact ⟨_, hr⟩
    obtain ⟨ad, hv⟩ := this
    refine ⟨hu, a.eval x, ?_, hr⟩
    unfold execOp
    simp only [ho, hv, Sem.run_pure]
  unfold nilK at h
  split at h
  · rename_i b o hx; exact ⟨_, hx ▸ h, key (.inl ⟨b, o, .inl hx⟩)⟩
  · rename_i b o hx; exact ⟨_, hx ▸ h, key (.inl ⟨b, o, .inr hx⟩)⟩
  · rename_i cs hx; exact ⟨_, hx ▸ h, key (.inr ⟨cs, hx⟩)⟩
  · simp [stuckP] at h

theorem extractK_sound {P : Program} {x : Operand} {i : Nat} {A : Tmps} {K : D → Prop} (h : extractK (ev A x) i K) : ∃ d, K d ∧ ∀ (nx : Ids) (H : Heap), OpOut P (.extract x i) A H nx d H nx := by
  unfold extractK at h
  split at h
  case h_2 => simp [stuckP] at h
  rename_i ds hx
  split at h
  case h_2 => simp [stuckP] at h
  rename_i d hd
  rw [force_iff] at h
  refine ⟨d, h, fun nx H => .value fun oo n0 d0 F cx a w ho he hw => ?_⟩
  obtain ⟨hr, hu⟩ := he x (by simp [Op.operands])
  rw [hx] at hr hu
  obtain ⟨vs, hv, hrl⟩ := hr
  obtain ⟨v, hv', hrd⟩ := RdL_get hrl hd
  refine ⟨underL_get (by simpa [D.under] using hu) hd, v, ?_, hrd⟩
  unfold execOp
  simp only [ho, Instr.extract, hv]
  simp [hv']

theorem fieldK_sound {P : Program} {T : Ty} (hT : TyOk P T) {s : TypeId} {x : Operand} {j : Nat} {A : Tmps} {K : D → Prop} (h : fieldK T s (ev A x) j K) :
    ∃ d, K d ∧ ∀ (nx : Ids) (H : Heap), OpOut P (.fieldAddr s x j) A H nx d H nx := by
  unfold fieldK at h
  split at h
  case h_2 => simp [stuckP] at h
  rename_i fs hs
  split at h
  case h_2 => simp [stuckP] at h
  rename_i off sz hj
  split at h
  case h_2 => simp [stuckP] at h
  rename_i hsz
  have hu := (hT s).und
  rw [hs] at hu
  obtain ⟨fields, hun, _, hf⟩ := hu
  obtain ⟨f, i, hf1, hf2, hf3, hf4⟩ := hf j off sz hj
  have hne : i.size ≠ 0 := by rw [hf4]; simp at hsz; omega
  have run : ∀ (oo : Oper) (a : Act) (w : World) (g o : Nat), oo.op = .fieldAddr s x j → a.eval x = .pointer (some ⟨g, o, none⟩) →
      (execOp a.eval oo).run P w = .ok (.value (.pointer (some ⟨g, o + off, none⟩))) w := by
    intro oo a w g o ho hx
    unfold execOp
    simp only [ho, Instr.fieldAt, hx, Instr.sureAddr, Sem.run_bind, run_underlying hun, Result.andThen_ok, hf1, Sem.run_pure, fieldPlace, Go.sizeOf, info_run hf3, hne, if_false, hf2, add_none]
  split at h
  · rename_i b o hx
    refine ⟨_, h, fun nx H => .value fun oo n0 d0 F cx a w ho he hw => ?_⟩
    obtain ⟨hr, hu⟩ := he x (by simp [Op.operands])
    rw [hx] at hr hu
    exact ⟨by simpa [D.under] using hu, _, run oo a w _ _ ho hr, rfl⟩
  · rename_i cs hx
    refine ⟨_, h, fun nx H => .value fun oo n0 d0 F cx a w ho he hw => ?_⟩
    obtain ⟨hr, hu⟩ := he x (by simp [Op.operands])
    rw [hx] at hr hu
    obtain ⟨g, o, u, hr, hc⟩ := hr
    refine ⟨rfl, _, run oo a w _ _ ho hr, g, o + off, fun j => u (off + j), rfl, fun j x hj => ?_⟩
    have := hc (off + j) x (by simpa using hj)
    simpa [Nat.add_assoc] using this
  · simp [stuckP] at h

theorem indexK_sound {P : Program} {T : Ty} (hT : TyOk P T) {t : TypeId} {x y : Operand} {A : Tmps} {K : D → Prop} (h : indexK T t (ev A x) (ev A y) K) :
    ∃ d, K d ∧ ∀ (nx : Ids) (H : Heap), OpOut P (.indexAddr t x y) A H nx d H nx := by
  unfold indexK at h
  split at h
  case h_2 => simp [stuckP] at h
  rename_i k n hy
  split at h
  case h_3 => simp [stuckP] at h
  · rename_i e sz by_ ht
    have hu := (hT t).und
    rw [ht] at hu
    obtain ⟨hun, i, z, hi, hsz, _⟩ := hu
    have run : ∀ (oo : Oper) (a : Act) (w : World) (g o len cap : Nat), oo.op = .indexAddr t x y → a.eval y = .int k n → a.eval x = .slice (some ⟨g, o, none⟩) len cap → 0 ≤ n → n.toNat < len →
        (execOp a.eval oo).run P w = .ok (.value (.pointer (some ⟨g, o + n.toNat * sz, none⟩))) w := by
      intro oo a w g o len cap ho hyv hx h0 hlt
      unfold execOp
      have hc : 0 ≤ n ∧ n < (len : Int) := ⟨h0, by omega⟩
      simp only [ho, Instr.indexAt, hx, hyv, asIntOf, Sem.run_bind, run_underlying hun, Result.andThen_ok, Sem.run_pure, Go.sizeOf, info_run hi, hsz, add_none, hc, and_self, if_true]
    have pure_ : ∀ (xs : List Pd), (∀ (cx : Cx) (a : Act) (w : World), Rd cx w (ev A x) (a.eval x) → Rp cx.K w (.list xs) (a.eval x)) → getP xs n sz (fun x => K (.cptr x.cells)) → ∃ d, K d ∧ ∀ (nx : Ids) (H : Heap), OpOut P (.indexAddr t x y) A H nx d H nx := by
      intro xs hxs hg
      simp only [getP_iff] at hg
      obtain ⟨h0, p, hp, hcl, hk⟩ := hg
      refine ⟨_, hk, fun nx H => .value fun oo n0 d0 F cx a w ho he hw => ?_⟩
      obtain ⟨hr, _⟩ := he x (by simp [Op.operands])
      obtain ⟨hry, _⟩ := he y (by simp [Op.operands])
      rw [hy] at hry
      have hyv : a.eval y = .int k n := Rp.int_inv hry
      have hr := hxs cx a w hr
      generalize hxv : a.eval x = xv at hr
      have hlt : n.toNat < xs.length := (List.getElem?_eq_some_iff.1 hp).1
      cases hr with
      | nil => simp at hlt
      | nila a => simp at hlt
      | list g o cap sz' xs u hcap hs hc hr =>
        have e : sz' = sz := (hs _ _ hp).symm.trans hcl
        subst e
        refine ⟨rfl, _, run oo a w g o _ cap ho hyv hxv h0 hlt, g, o + n.toNat * sz', fun j => u (n.toNat * sz' + j), rfl, fun j c hj => ?_⟩
        obtain ⟨h1, h2, h3⟩ := hc _ _ j c hp hj
        exact ⟨h1, h2, h3, hr _ _ j c hp hj⟩
    split at h
    · rename_i xs hx; exact pure_ xs (fun cx a w hr => by rw [hx] at hr; exact hr) h
    · rename_i xs hx; exact pure_ xs (fun cx a w hr => by rw [hx] at hr; exact hr.1) h
    · rename_i b xs hx; exact pure_ xs (fun cx a w hr => by rw [hx] at hr; exact hr.1) h
    · rename_i b sz' lo len cap hx
      split at h
      · rename_i hsz'
        simp only [needP_iff] at h
        obtain ⟨⟨h0, hlt⟩, hk⟩ := h
        refine ⟨_, hk, fun nx H => .value fun oo n0 d0 F cx a w ho he hw => ?_⟩
        obtain ⟨hr, hu⟩ := he x (by simp [Op.operands])
        obtain ⟨hry, _⟩ := he y (by simp [Op.operands])
        rw [hy] at hry
        have hyv : a.eval y = .int k n := Rp.int_inv hry
        rw [hx] at hr hu
        obtain ⟨o, hr, ho', hle⟩ := hr
        have e := ho' (by omega)
        subst e
        exact ⟨by simpa [D.under] using hu, _, run oo a w _ _ len cap ho hyv hr h0 (by omega), rfl⟩
      · simp [stuckP] at h
    · simp [stuckP] at h
  · rename_i len e sz ht
    have hu := (hT t).und
    rw [ht] at hu
    obtain ⟨hun, i, hi, hsz⟩ := hu
    have arr : ∀ (b o : Nat), (ev A x = .ref b o ∨ ev A x = .xref b o) → needP (0 ≤ n ∧ n < len) (K (.xref b (o + n.toNat * sz))) → ∃ d, K d ∧ ∀ (nx : Ids) (H : Heap), OpOut P (.indexAddr t x y) A H nx d H nx := by
      intro b o hx hk
      simp only [needP_iff] at hk
      obtain ⟨hc, hk⟩ := hk
      refine ⟨_, hk, fun nx H => .value fun oo n0 d0 F cx a w ho he hw => ?_⟩
      obtain ⟨hr, hu⟩ := he x (by simp [Op.operands])
      obtain ⟨hry, _⟩ := he y (by simp [Op.operands])
      rw [hy] at hry
      have hyv : a.eval y = .int k n := Rp.int_inv hry
      have hxv : a.eval x = .pointer (some ⟨cx.ρ b, o, none⟩) := by rcases hx with hx | hx <;> (rw [hx] at hr; exact hr)
      have hu' : nx b = true := by rcases hx with hx | hx <;> (rw [hx] at hu; simpa [D.under] using hu)
      refine ⟨by simpa [D.under] using hu', .pointer (some ⟨cx.ρ b, o + n.toNat * sz, none⟩), ?_, rfl⟩
      unfold execOp
      simp only [ho, Instr.indexAt, hxv, hyv, asIntOf, Instr.sureAddr, Sem.run_bind, run_underlying hun, Result.andThen_ok, Sem.run_pure, Go.sizeOf, info_run hi, hsz, add_none, hc, and_self, if_true]
    split at h
    · rename_i b o hx; exact arr b o (.inl hx) h
    · rename_i b o hx; exact arr b o (.inr hx) h
    · simp [stuckP] at h

end Qa

namespace Qa
open Go

theorem eqGuard_plain {P : Program} (op : BinOp) (t : TypeId) (x y : Operand) (u v : Value) (w : World) (h1 : u ≠ .nilIface) (h2 : ∀ cs, u ≠ .agg cs) :
    (eqGuard op t x y u v).run P w = .ok () w := by
  cases u with
  | nilIface => exact absurd rfl h1
  | agg cs => exact absurd rfl (h2 cs)
  | _ => cases op <;> simp [eqGuard]

theorem run_binOp {P : Program} {o : Oper} {a : Act} {w : World} {op : BinOp} {t ty : TypeId} {x y : Operand} {u v r : Value} (ho : o.op = .binOp op t x y ty)
    (hx : a.eval x = u) (hy : a.eval y = v) (h1 : u ≠ .nilIface) (h2 : ∀ cs, u ≠ .agg cs) (hr : (binOp op t u v).run P w = .ok r w) :
    (execOp a.eval o).run P w = .ok (.value r) w := by
  unfold execOp
  simp only [ho, hx, hy, Sem.run_bind, eqGuard_plain op t x y u v w h1 h2, Result.andThen_ok, hr, Sem.run_pure]

theorem intK_sound {P : Program} {op : BinOp} {t : TypeId} {k : IntKind} {a b : Int} {K : D → Prop} (h1 : op ≠ .shl) (h2 : op ≠ .shr) (h : intK op k a b K) :
    ∃ d, K d ∧ (∀ n, d.under n = true) ∧ ∃ r, (∀ w, (binOp op t (.int k a) (.int k b)).run P w = .ok r w) ∧ ∀ c w, Rd c w d r := by
  cases op <;> simp only [intK, stuckP, wrapP_iff, needP_iff] at h <;> first
    | contradiction
    | (refine ⟨_, h.2, fun _ => rfl, _, fun w => ?_, fun c w => .int _ _⟩; simp [binOp, Op.intDiv, h.1]; done)
    | (refine ⟨_, h, fun _ => rfl, _, fun w => ?_, fun c w => .int _ _⟩; simp [binOp, Op.intArith]; done)
    | (refine ⟨_, h, fun _ => rfl, .bool _, fun w => ?_, fun c w => .bool _⟩; simp [binOp, Op.intCmp] <;> first | rfl | (congr; done) | (simp [bne, beq_eq_decide]; done))

theorem equal_bool {P : Program} {t : TypeId} (hu : P.underlying t = some .bool) (a b : Bool) (w : World) : (Op.equal t (.bool a) (.bool b)).run P w = .ok (a == b) w := by
  have key : ∀ d, (Op.equalIn (d + 1) t (.bool a) (.bool b)).run P w = .ok (a == b) w := fun d => by
    rw [Op.equalIn]
    simp only [Sem.run_bind, run_underlying hu, Result.andThen_ok, Sem.run_pure]
  exact key 9999
theorem equal_slices {P : Program} {t e : TypeId} (hu : P.underlying t = some (.slice e)) (a : Option Addr) (n cap : Nat) (w : World) : (Op.equal t (.slice a n cap) (.slice none 0 0)).run P w = .ok a.isNone w := by
  have key : ∀ d, (Op.equalIn (d + 1) t (.slice a n cap) (.slice none 0 0)).run P w = .ok a.isNone w := fun d => by
    rw [Op.equalIn]
    cases a <;> simp only [Sem.run_bind, run_underlying hu, Result.andThen_ok, Sem.run_pure] <;> rfl
  exact key 9999

theorem binK_sound {P : Program} {T : Ty} (hT : TyOk P T) {op : BinOp} {t ty : TypeId} {x y : Operand} {A : Tmps} {K : D → Prop}
    (h : binK T t op (ev A x) (ev A y) K) : ∃ d, K d ∧ ∀ (nx : Ids) (H : Heap), OpOut P (.binOp op t x y ty) A H nx d H nx := by
  have fin : ∀ (u v r : Cx → Act → World → Value) (d : D), (∀ n, d.under n = true) →
      (∀ (c : Cx) (a : Act) (w : World), Rd c w (ev A x) (a.eval x) → Rd c w (ev A y) (a.eval y) → ∃ u v r, a.eval x = u ∧ a.eval y = v ∧ u ≠ .nilIface ∧ (∀ cs, u ≠ .agg cs) ∧
        (binOp op t u v).run P w = .ok r w ∧ Rd c w d r) → ∀ (nx : Ids) (H : Heap), OpOut P (.binOp op t x y ty) A H nx d H nx := by
    intro _ _ _ d hd hh nx H
    refine .value fun oo n0 d0 F c a w ho he hw => ?_
    obtain ⟨hrx, _⟩ := he x (by simp [Op.operands])
    obtain ⟨hry, _⟩ := he y (by simp [Op.operands])
    obtain ⟨u, v, r, h1, h2, h3, h4, h5, h6⟩ := hh c a w hrx hry
    exact ⟨hd nx, r, run_binOp ho h1 h2 h3 h4 h5, h6⟩
  have dv : Cx → Act → World → Value := fun _ _ _ => .nilIface
  unfold binK at h
  split at h
  · rename_i k a hx
    split at h
    case h_2 => simp [stuckP] at h
    rename_i k' b hy
    split at h
    · simp [stuckP] at h
    · simp [stuckP] at h
    · rename_i h1 h2
      split at h
      case h_2 => simp [stuckP] at h
      rename_i hk
      have e := kEq_eq hk
      subst e
      obtain ⟨d, hd, hu, r, hr, hrd⟩ := intK_sound (P := P) (t := t) (fun e => h1 e) (fun e => h2 e) h
      refine ⟨d, hd, fin dv dv dv d hu fun c ac w hrx hry => ?_⟩
      rw [hx] at hrx
      rw [hy] at hry
      exact ⟨_, _, r, Rp.int_inv hrx, Rp.int_inv hry, by simp, by simp, hr w, hrd c w⟩
  · rename_i a hx
    split at h
    case h_2 => simp [stuckP] at h
    rename_i b hy
    split at h
    case h_2 => simp [stuckP] at h
    rename_i ht
    have hu := (hT t).und
    rw [ht] at hu
    have key : ∀ w, (Op.equal t (.bool a) (.bool b)).run P w = .ok (a == b) w := equal_bool hu a b
    split at h
    · refine ⟨_, h, fin dv dv dv _ (fun _ => rfl) fun c ac w hrx hry => ?_⟩
      rw [hx] at hrx
      rw [hy] at hry
      refine ⟨_, _, .bool (a == b), Rp.bool_inv hrx, Rp.bool_inv hry, by simp, by simp, ?_, .bool _⟩
      simp only [binOp, Sem.run_bind, key, Result.andThen_ok, Sem.run_pure]
    · refine ⟨_, h, fin dv dv dv _ (fun _ => rfl) fun c ac w hrx hry => ?_⟩
      rw [hx] at hrx
      rw [hy] at hry
      refine ⟨_, _, .bool (a != b), Rp.bool_inv hrx, Rp.bool_inv hry, by simp, by simp, ?_, .bool _⟩
      simp only [binOp, Sem.run_bind, key, Result.andThen_ok, Sem.run_pure, bne]
    · simp [stuckP] at h
  · rename_i hx
    split at h
    case h_2 => simp [stuckP] at h
    rename_i hy
    split at h
    case h_2 => simp [stuckP] at h
    rename_i e sz by_ ht
    have hu := (hT t).und
    rw [ht] at hu
    have key : ∀ w, (Op.equal t (.slice none 0 0) (.slice none 0 0)).run P w = .ok true w := fun w => equal_slices hu.1 _ _ _ w
    split at h
    · refine ⟨_, h, fin dv dv dv _ (fun _ => rfl) fun c ac w hrx hry => ?_⟩
      rw [hx] at hrx
      rw [hy] at hry
      refine ⟨_, _, .bool true, hrx, hry, by simp, by simp, ?_, .bool _⟩
      simp only [binOp, Sem.run_bind, key, Result.andThen_ok, Sem.run_pure]
    · refine ⟨_, h, fin dv dv dv _ (fun _ => rfl) fun c ac w hrx hry => ?_⟩
      rw [hx] at hrx
      rw [hy] at hry
      refine ⟨_, _, .bool false, hrx, hry, by simp, by simp, ?_, .bool _⟩
      simp only [binOp, Sem.run_bind, key, Result.andThen_ok, Sem.run_pure, Bool.not_true]
    · simp [stuckP] at h
  · rename_i xs hx
    split at h
    case h_2 => simp [stuckP] at h
    rename_i hy
    split at h
    case h_2 => simp [stuckP] at h
    rename_i e sz by_ ht
    have hu := (hT t).und
    rw [ht] at hu
    simp only [needP_iff] at h
    obtain ⟨hne, h⟩ := h
    have inv : ∀ (c : Cx) (w : World) (v : Value), Rp c.K w (.list xs) v → ∃ a n cap, v = .slice (some a) n cap := by
      intro c w v hr
      cases hr with
      | nil => exact absurd rfl hne
      | nila a => exact absurd rfl hne
      | list g o cap sz xs u => exact ⟨_, _, _, rfl⟩
    have key : ∀ a n cap w, (Op.equal t (.slice (some a) n cap) (.slice none 0 0)).run P w = .ok false w := fun a n cap w => equal_slices hu.1 _ _ _ w
    split at h
    · refine ⟨_, h, fin dv dv dv _ (fun _ => rfl) fun c ac w hrx hry => ?_⟩
      rw [hx] at hrx
      rw [hy] at hry
      obtain ⟨ad, n, cap, hv⟩ := inv c w _ hrx
      refine ⟨_, _, .bool false, hv, hry, by simp, by simp, ?_, .bool _⟩
      simp only [binOp, Sem.run_bind, key, Result.andThen_ok, Sem.run_pure]
    · refine ⟨_, h, fin dv dv dv _ (fun _ => rfl) fun c ac w hrx hry => ?_⟩
      rw [hx] at hrx
      rw [hy] at hry
      obtain ⟨ad, n, cap, hv⟩ := inv c w _ hrx
      refine ⟨_, _, .bool true, hv, hry, by simp, by simp, ?_, .bool _⟩
      simp only [binOp, Sem.run_bind, key, Result.andThen_ok, Sem.run_pure, Bool.not_false]
    · simp [stuckP] at h
  · simp [stuckP] at h

/-- not, and the minus of an integer. -/
def unK (op : UnOp) (x : D) (K : D → Prop) : Prop :=
  match op with
  | .not => match x with
    | .p (.bool b) => K (.p (.bool (!b)))
    | _ => stuckP "not"
  | .neg => match x with
    | .p (.int k n) => wrapP k (0 - n) fun r => K (.p (.int k r))
    | _ => stuckP "neg"
  | _ => stuckP "unop"

theorem unK_sound {P : Program} {op : UnOp} {t : TypeId} {x : Operand} {A : Tmps} {K : D → Prop}
    (h : unK op (ev A x) K) : ∃ d, K d ∧ ∀ (nx : Ids) (H : Heap), OpOut P (.unOp op t x) A H nx d H nx := by
  unfold unK at h
  split at h
  · split at h
    case h_2 => simp [stuckP] at h
    rename_i b hx
    refine ⟨_, h, fun nx H => .value fun oo n0 d0 F c a w ho he hw => ?_⟩
    obtain ⟨hr, _⟩ := he x (by simp [Op.operands])
    rw [hx] at hr
    refine ⟨rfl, .bool (!b), ?_, .bool _⟩
    unfold execOp
    simp only [ho, Rp.bool_inv hr, Op.unary, Sem.run_bind, Sem.run_pure, Result.andThen_ok]
  · split at h
    case h_2 => simp [stuckP] at h
    rename_i k n hx
    simp only [wrapP_iff] at h
    refine ⟨_, h, fun nx H => .value fun oo n0 d0 F c a w ho he hw => ?_⟩
    obtain ⟨hr, _⟩ := he x (by simp [Op.operands])
    rw [hx] at hr
    refine ⟨rfl, .int k (k.wrap (0 - n)), ?_, .int _ _⟩
    unfold execOp
    simp only [ho, Rp.int_inv hr, Op.unary, Op.intArith, Sem.run_bind, Sem.run_pure, Result.andThen_ok]
  · simp [stuckP] at h

/-- a conversion between integer kinds. -/
def convK (T : Ty) (s d : TypeId) (x : D) (K : D → Prop) : Prop :=
  match x with
  | .p (.int _ n) => match (T d).d with
    | .int k => match (T s).good with
      | true => wrapP k n fun r => K (.p (.int k r))
      | false => stuckP "convert"
    | _ => stuckP "convert"
  | _ => stuckP "convert"

theorem TyOk1.any {P : Program} {t : TypeId} {i : TI} (h : TyOk1 P t i) (hg : i.good = true) : ∃ d, P.underlying t = some d := by
  have hu := h.und
  cases hd : i.d <;> rw [hd] at hu
  case bad => simp [TI.good, hd] at hg
  case struct => obtain ⟨f, h, _⟩ := hu; exact ⟨_, h⟩
  case slice => exact ⟨_, hu.1⟩
  case arr => exact ⟨_, hu.1⟩
  case ptr => obtain ⟨e, h⟩ := hu; exact ⟨_, h⟩
  case func => obtain ⟨a, b, v, h⟩ := hu; exact ⟨_, h⟩
  case other => obtain ⟨d, h, _⟩ := hu; exact ⟨_, h⟩
  all_goals exact ⟨_, hu⟩

theorem convK_sound {P : Program} {T : Ty} (hT : TyOk P T) {s d : TypeId} {x : Operand} {A : Tmps} {K : D → Prop}
    (h : convK T s d (ev A x) K) : ∃ r, K r ∧ ∀ (nx : Ids) (H : Heap), OpOut P (.convert s d x) A H nx r H nx := by
  unfold convK at h
  split at h
  case h_2 => simp [stuckP] at h
  rename_i k0 n hx
  split at h
  case h_2 => simp [stuckP] at h
  rename_i k hd
  split at h
  case h_2 => simp [stuckP] at h
  rename_i hg
  simp only [wrapP_iff] at h
  have hu := (hT d).und
  rw [hd] at hu
  obtain ⟨ds, hs⟩ := (hT s).any hg
  refine ⟨_, h, fun nx H => .value fun oo n0 d0 F c a w ho he hw => ?_⟩
  obtain ⟨hr, _⟩ := he x (by simp [Op.operands])
  rw [hx] at hr
  refine ⟨rfl, .int k (k.wrap n), ?_, .int _ _⟩
  unfold execOp
  simp only [ho, Rp.int_inv hr, convert, Sem.run_bind, run_underlying hs, run_underlying hu, Conv.intToInt, Sem.run_pure, Result.andThen_ok]

theorem builtin_run {P : Program} {o : Oper} {a : Act} {w w' : World} {b : Builtin} {args : Array Operand} {ts : Array TypeId} {r : Value}
    (ho : o.op = .call { callee := .builtin b, args := args, argTypes := ts })
    (hr : ∀ cs, (builtin b ts o.type cs (args.map a.eval)).run P w = .ok (.value r) w') : (execOp a.eval o).run P w = .ok (.value r) w' := by
  unfold execOp
  simp only [ho, resolve, invoke, Sem.run_bind, Sem.run_pure, Result.andThen_ok, hr]

theorem lenK_sound {P : Program} {T : Ty} (hT : TyOk P T) {t : TypeId} (x : Operand) {A : Tmps} {K : D → Prop}
    (hsl : ((∃ e s b, (T t).d = .slice e s b) ∧ ∀ s, ev A x ≠ .p (.str s)) ∨ ((T t).d = .str ∧ ∃ s, ev A x = .p (.str s))) (h : lenK (ev A x) K) :
    ∃ d, K d ∧ ∀ (nx : Ids) (H : Heap), OpOut P (.call { callee := .builtin .len, args := #[x], argTypes := #[t] }) A H nx d H nx := by
  have slice : ∀ (n : Nat), (∃ e s b, (T t).d = .slice e s b) → (∀ (c : Cx) (a : Act) (w : World), Rd c w (ev A x) (a.eval x) → ∃ ad cap, a.eval x = .slice ad n cap) →
      ∀ (nx : Ids) (H : Heap), OpOut P (.call { callee := .builtin .len, args := #[x], argTypes := #[t] }) A H nx (.p (.int .i64 (n : Int))) H nx := by
    intro n ⟨e, s, b, ht⟩ hh nx H
    have hu := (hT t).und
    rw [ht] at hu
    refine .value fun oo n0 d0 F c a w ho he hw => ?_
    obtain ⟨hr, _⟩ := he x (by simp [Op.operands, Call.operands])
    obtain ⟨ad, cap, hv⟩ := hh c a w hr
    refine ⟨rfl, .int .i64 n, builtin_run ho fun cs => ?_, .int _ _⟩
    simp [builtin, Builtin.len_, hv, run_underlying hu.1, goInt]
  unfold lenK at h
  split at h
  · rename_i xs hx
    refine ⟨_, h, slice _ (hsl.elim (·.1) fun ⟨_, s, e⟩ => by rw [hx] at e; cases e) fun c a w hr => ?_⟩
    rw [hx] at hr
    generalize a.eval x = v at hr ⊢
    cases hr with
    | nil => exact ⟨_, _, rfl⟩
    | nila a => exact ⟨_, _, rfl⟩
    | list => exact ⟨_, _, rfl⟩
  · rename_i xs hx
    refine ⟨_, h, slice _ (hsl.elim (·.1) fun ⟨_, s, e⟩ => by rw [hx] at e; cases e) fun c a w hr => ?_⟩
    rw [hx] at hr
    obtain ⟨_, ad, hv⟩ := hr
    exact ⟨ad, _, hv⟩
  · rename_i b xs hx
    refine ⟨_, h, slice _ (hsl.elim (·.1) fun ⟨_, s, e⟩ => by rw [hx] at e; cases e) fun c a w hr => ?_⟩
    rw [hx] at hr
    have hr := hr.1
    generalize a.eval x = v at hr ⊢
    cases hr with
    | nil => exact ⟨_, _, rfl⟩
    | nila a => exact ⟨_, _, rfl⟩
    | list => exact ⟨_, _, rfl⟩
  · rename_i hx
    refine ⟨_, h, slice 0 (hsl.elim (·.1) fun ⟨_, s, e⟩ => by rw [hx] at e; cases e) fun c a w hr => ?_⟩
    rw [hx] at hr
    exact ⟨_, _, hr⟩
  · rename_i b sz lo n cap hx
    refine ⟨_, h, slice n (hsl.elim (·.1) fun ⟨_, s, e⟩ => by rw [hx] at e; cases e) fun c a w hr => ?_⟩
    rw [hx] at hr
    obtain ⟨o, hv, _⟩ := hr
    exact ⟨_, _, hv⟩
  · rename_i s hx
    rcases hsl with ⟨_, hne⟩ | ⟨ht, _⟩
    · exact absurd hx (hne s)
    have hu := (hT t).und
    rw [ht] at hu
    refine ⟨_, h, fun nx H => .value fun oo n0 d0 F c a w ho he hw => ?_⟩
    obtain ⟨hr, _⟩ := he x (by simp [Op.operands, Call.operands])
    rw [hx] at hr
    refine ⟨rfl, .int .i64 s.size, builtin_run ho fun cs => ?_, .int _ _⟩
    simp [builtin, Builtin.len_, Rp.str_inv hr, run_underlying hu, goInt]
  · simp [stuckP] at h

end Qa

namespace Qa
open Go

/-- a list's cells. -/
theorem Rp.cellsOf {K : Nat → Nat → Prop} {w : World} {ys : List Pd} {v : Value} (h : Rp K w (.list ys) v) {sz : Nat} (hsz : ∀ y ∈ ys, y.cells.length = sz) (h0 : 0 < sz) :
    ((∃ a, v = .slice a 0 0) ∧ ys = []) ∨ ∃ (g o cap : Nat) (us : List Value), v = .slice (some ⟨g, o, none⟩) ys.length cap ∧ us.length = ys.length * sz ∧ ys.length ≤ cap ∧
      (∀ (t : Nat) (u : Value), us[t]? = some u → K g (o + t) ∧ w.cell? ⟨g, o + t, none⟩ = some u ∧ u.oneCell' = true) ∧
      (∀ (i : Nat) (y : Pd) (j : Nat) (c : Pd), ys[i]? = some y → y.cells[j]? = some c → ∃ u, us[i * sz + j]? = some u ∧ Rp K w c u) := by
  cases h with
  | nil => exact .inl ⟨⟨_, rfl⟩, rfl⟩
  | nila a => exact .inl ⟨⟨_, rfl⟩, rfl⟩
  | list g o cap sz' _ u hcap hs hc hr =>
    right
    have key : ∀ t, t < ys.length * sz → ∃ y c, ys[t / sz]? = some y ∧ y.cells[t % sz]? = some c := by
      intro t ht
      have h1 : t / sz < ys.length := Nat.div_lt_of_lt_mul (by rw [Nat.mul_comm]; exact ht)
      have h2 : (ys[t / sz]).cells.length = sz := hsz _ (List.getElem_mem h1)
      have h3 : t % sz < (ys[t / sz]).cells.length := by rw [h2]; exact Nat.mod_lt _ h0
      exact ⟨ys[t / sz], (ys[t / sz]).cells[t % sz], List.getElem?_eq_getElem h1, List.getElem?_eq_getElem h3⟩
    have hss : ∀ t, t < ys.length * sz → sz' = sz := fun t ht => by
      obtain ⟨y, c, h1, _⟩ := key t ht
      rw [← hs _ y h1]; exact hsz y (List.mem_of_getElem? h1)
    refine ⟨g, o, cap, (List.range (ys.length * sz)).map u, rfl, by simp, hcap, fun t v hv => ?_, fun i y j c h1 h2 => ?_⟩
    · obtain ⟨ht, e⟩ := List.getElem?_eq_some_iff.1 hv
      simp at ht e
      subst e
      obtain ⟨y, c, h1, h2⟩ := key t ht
      have := hc _ y _ c h1 h2
      rw [hss t ht, Nat.add_assoc, Nat.div_add_mod' t sz] at this
      exact this
    · have hi : i < ys.length := (List.getElem?_eq_some_iff.1 h1).1
      have hy : y.cells.length = sz := hsz y (List.mem_of_getElem? h1)
      have hj : j < sz := by rw [← hy]; exact (List.getElem?_eq_some_iff.1 h2).1
      have hlt : i * sz + j < ys.length * sz := by
        have := Nat.mul_le_mul_right sz (Nat.succ_le_of_lt hi)
        rw [Nat.succ_mul] at this; omega
      refine ⟨u (i * sz + j), by simp [hlt], ?_⟩
      have := hr i y j c h1 h2
      rw [hss _ hlt] at this
      exact this

/-- cells of a block, as a list. -/
theorem Rp.mkList {K : Nat → Nat → Prop} {w : World} {g cap sz : Nat} {zs : List Pd} {us : List Value} (hcap : zs.length ≤ cap) (hsz : ∀ z ∈ zs, z.cells.length = sz)
    (hK : ∀ (t : Nat) (u : Value), us[t]? = some u → K g t ∧ w.cell? ⟨g, t, none⟩ = some u ∧ u.oneCell' = true)
    (hr : ∀ (i : Nat) (y : Pd) (j : Nat) (c : Pd), zs[i]? = some y → y.cells[j]? = some c → ∃ u, us[i * sz + j]? = some u ∧ Rp K w c u) :
    Rp K w (.list zs) (.slice (some ⟨g, 0, none⟩) zs.length cap) := by
  refine .list g 0 cap sz zs (fun t => us.getD t undef) hcap (fun i x hx => hsz x (List.mem_of_getElem? hx)) (fun i x j c hx hj => ?_) fun i x j c hx hj => ?_
  · obtain ⟨u, hu, _⟩ := hr i x j c hx hj
    have := hK _ _ hu
    rw [Nat.zero_add, List.getD_eq_getElem?_getD, hu]
    exact this
  · obtain ⟨u, hu, h⟩ := hr i x j c hx hj
    rw [List.getD_eq_getElem?_getD, hu]
    exact h

def Cx.tok (c : Cx) (b n g cap sz : Nat) : Cx :=
  { ρ := c.ρ, τ := fun x => if x = b then some (n, some (g, cap)) else c.τ x, K := fun h o => c.K h o ∨ (h = g ∧ o < n * sz) }

theorem hset_tok_mem {H : Heap} {b x : Nat} {k k' : Blk} (h : hset H b k x = some k') : (x = b ∧ k' = k) ∨ (x ≠ b ∧ H x = some k') := hset_some h

/-- a token's content moves into a new block (or begins in one). -/
theorem tok_new {n0 : Nat} {d0 F : Nat → Prop} {H : Heap} {nx nx' : Ids} {c : Cx} {w : World} (hw : WRel n0 d0 H nx c F w) {b : Nat} {e : TypeId} {sz n cap : Nat} {cur : Array Value}
    (hb : (nx b = true ∧ (∃ m, H b = some (.tok e sz m)) ∧ nx' = nx ∧ ∃ m p, c.τ b = some (m, p) ∧ m < n) ∨ (nx b = false ∧ nx' = iadd nx b)) (hn : n ≤ cap) (hcap : cap ≤ maxLen) (hs : cur.size = cap * sz) :
    WRel n0 d0 (hset H b (.tok e sz n)) nx' (c.tok b n w.heap.size cap sz) F (w.drew.alloc (.cells cur e)) ∧ Step nx c w (c.tok b n w.heap.size cap sz) (w.drew.alloc (.cells cur e)) ∧
      Later n0 d0 F c w (c.tok b n w.heap.size cap sz) (w.drew.alloc (.cells cur e)) := by
  have hk : KStep c.K w (c.tok b n w.heap.size cap sz).K (w.drew.alloc (.cells cur e)) := fun g o hk => ⟨.inl hk, fun u hu => by
    rw [World.cell?_alloc_lt (h := cell_lt hu)]; exact hu⟩
  have hst : Step nx c w (c.tok b n w.heap.size cap sz) (w.drew.alloc (.cells cur e)) := ⟨hk, fun _ _ => rfl, fun x hx => by
    by_cases hxb : x = b
    · subst hxb
      rcases hb with ⟨_, _, _, m, p, h1, h2⟩ | ⟨h1, _⟩
      · intro n' p' he
        simp [Cx.tok] at he
        obtain ⟨rfl, rfl⟩ := he
        exact ⟨m, p, h1, Nat.le_of_lt h2, fun e => absurd e (Nat.ne_of_lt h2)⟩
      · rw [h1] at hx; cases hx
    · simp only [Cx.tok, hxb, if_false]; exact tgrow.refl _⟩
  have hle : nx.le nx' := by
    rcases hb with ⟨_, _, h, _⟩ | ⟨_, h⟩
    · rw [h]; exact Ids.le.refl _
    · rw [h]; exact iadd_le _ _
  have hold : ∀ x k, x ≠ b → place (c.tok b n w.heap.size cap sz) x k = place c x k := fun x k hx => place_mono rfl (by simp [Cx.tok, hx])
  have hme : place (c.tok b n w.heap.size cap sz) b (.tok e sz n) = some w.heap.size := by simp [place, Cx.tok]
  have hheap : ∀ g, g < w.heap.size → (w.drew.alloc (.cells cur e)).heap[g]? = w.heap[g]? := fun g hg => heap_alloc_old w.drew _ hg
  refine ⟨⟨fun x k hx => ?_, fun x x' k k' g hx hx' hp hp' => ?_, fun x k hx => ?_, fun x k hx hlt => ?_, fun b hb => hle b (hw.n0 b hb), fun g o hk => ?_, fun g hg => ?_⟩, hst, hst.le hw.le0, fun g hg => hheap g (hw.fb g hg), fun g o hk => ?_, by simp, fun x hx hd => ?_, ⟨rfl, rfl, rfl, by first | exact Nat.le_refl _ | exact Nat.le_succ _⟩⟩
  · rcases hset_some hx with ⟨rfl, rfl⟩ | ⟨hne, hx⟩
    · refine ⟨some (w.heap.size, cap), by simp [Cx.tok], cur, heap_alloc_new w.drew _, hn, hcap, hs, fun hf => Nat.lt_irrefl _ (hw.fb _ hf), fun o ho hk => ?_⟩
      rcases hk with hk | ⟨_, hk⟩
      · exact Nat.lt_irrefl _ (hw.kb _ _ hk)
      · omega
    · obtain ⟨hlt, hun⟩ := hw.bh x k hx
      refine (hw.blk x k hx).mono hst hlt hun (fun g hp => hheap g ((hw.blk x k hx).place_lt hp).1) (fun g o hp hk => ?_) (by simp [Cx.tok, hne])
      rcases hk with hk | ⟨rfl, _⟩
      · exact hk
      · exact absurd ((hw.blk x k hx).place_lt hp).1 (Nat.lt_irrefl _)
  · rcases hset_some hx with ⟨rfl, rfl⟩ | ⟨hne, hx0⟩ <;> rcases hset_some hx' with ⟨rfl, rfl⟩ | ⟨hne', hx0'⟩
    · rfl
    · rw [hme] at hp
      rw [hold _ _ hne'] at hp'
      cases hp
      exact absurd ((hw.blk _ _ hx0').place_lt hp').1 (Nat.lt_irrefl _)
    · rw [hme] at hp'
      rw [hold _ _ hne] at hp
      cases hp'
      exact absurd ((hw.blk _ _ hx0).place_lt hp).1 (Nat.lt_irrefl _)
    · rw [hold _ _ hne] at hp
      rw [hold _ _ hne'] at hp'
      exact hw.inj x x' k k' g hx0 hx0' hp hp'
  · rcases hset_some hx with ⟨rfl, rfl⟩ | ⟨hne, hx0⟩
    · refine ⟨?_, rfl⟩
      rcases hb with ⟨h, _, h2, _⟩ | ⟨h, h2⟩
      · rw [h2]; exact h
      · rw [h2]; exact iadd_self _ _
    · exact ⟨hle _ (hw.bh x k hx0).1, Blk.under_le hle k (hw.bh x k hx0).2⟩
  · rcases hset_some hx with ⟨rfl, rfl⟩ | ⟨hne, hx0⟩
    · rcases hb with ⟨_, ⟨m, hm⟩, _⟩ | ⟨h, _⟩
      · exact hw.dm _ _ hm hlt
      · rw [hw.n0 _ hlt] at h; cases h
    · exact hw.dm x k hx0 hlt
  · rcases hk with hk | ⟨rfl, _⟩
    · have := hw.kb g o hk; simp; omega
    · simp
  · have := hw.fb g hg; simp; omega
  · rcases hk with hk | ⟨rfl, _⟩
    · exact .inl hk
    · exact .inr fun hf => Nat.lt_irrefl _ (hw.fb _ hf)
  · rcases hb with ⟨h, ⟨m, hm⟩, _⟩ | ⟨h, _⟩
    · have : x ≠ b := fun e => hd (e ▸ hw.dm _ _ hm (e ▸ hx))
      simp [Cx.tok, this]
    · simp [Cx.tok, ne_of_ids (hw.n0 x hx) h]

/-- a token's content grows where it lies. -/
theorem tok_room {n0 : Nat} {d0 F : Nat → Prop} {H : Heap} {nx : Ids} {c : Cx} {w : World} (hw : WRel n0 d0 H nx c F w) {b : Nat} {e : TypeId} {sz m n g cap : Nat} {cur cur' : Array Value}
    (hb : H b = some (.tok e sz m)) (hτ : c.τ b = some (m, some (g, cap))) (hg : w.heap[g]? = some (.cells cur e (0, 0))) (hmn : m < n) (hn : n ≤ cap) (hs' : cur'.size = cur.size)
    (hsame : ∀ t, t < m * sz → cur'[t]? = cur[t]?) :
    WRel n0 d0 (hset H b (.tok e sz n)) nx (c.tok b n g cap sz) F (w.setRow g cur') ∧ Step nx c w (c.tok b n g cap sz) (w.setRow g cur') ∧ Later n0 d0 F c w (c.tok b n g cap sz) (w.setRow g cur') := by
  obtain ⟨p, hp1, hp2⟩ := hw.blk b _ hb
  rw [hτ] at hp1
  cases hp1
  obtain ⟨cur0, a1, a2, a3, a4, a5, a6⟩ := hp2
  rw [hg] at a1
  cases a1
  have hpl : place c b (.tok e sz m) = some g := by simp [place, hτ]
  have hbx := (hw.bh b _ hb).1
  have hheap : ∀ k, k ≠ g → (w.setRow g cur').heap[k]? = w.heap[k]? := fun k hk => setRow_other w g k cur' hk
  have hk : KStep c.K w (c.tok b n g cap sz).K (w.setRow g cur') := fun h o hk => ⟨.inl hk, fun u hu => by
    by_cases e' : h = g
    · subst e'
      have ho : o < m * sz := Nat.lt_of_not_le fun hle => a6 o hle hk
      rw [cell_of_row w h o _ _ _ hg] at hu
      rw [cell_of_row _ h o _ _ _ (setRow_heap w h cur cur' e _ hg), hsame o ho]; exact hu
    · rw [World.cell?_of_block (w := w) (hheap h e')]; exact hu⟩
  have hst : Step nx c w (c.tok b n g cap sz) (w.setRow g cur') := ⟨hk, fun _ _ => rfl, fun x hx => by
    by_cases hxb : x = b
    · subst hxb
      intro n' p' he
      simp [Cx.tok] at he
      obtain ⟨rfl, rfl⟩ := he
      exact ⟨m, _, hτ, Nat.le_of_lt hmn, fun e => absurd e (Nat.ne_of_lt hmn)⟩
    · simp only [Cx.tok, hxb, if_false]; exact tgrow.refl _⟩
  have hold : ∀ x k, x ≠ b → place (c.tok b n g cap sz) x k = place c x k := fun x k hx => place_mono rfl (by simp [Cx.tok, hx])
  have hme : place (c.tok b n g cap sz) b (.tok e sz n) = some g := by simp [place, Cx.tok]
  refine ⟨⟨fun x k hx => ?_, fun x x' k k' h hx hx' hp hp' => ?_, fun x k hx => ?_, fun x k hx hlt => ?_, hw.n0, fun h o hk => ?_, fun h hf => ?_⟩, hst, hst.le hw.le0, fun h hf => hheap h fun e' => a5 (e' ▸ hf), fun h o hk => ?_, by simp [World.setRow], fun x hx hd => ?_, ⟨rfl, rfl, rfl, by first | exact Nat.le_refl _ | exact Nat.le_succ _⟩⟩
  · rcases hset_some hx with ⟨rfl, rfl⟩ | ⟨hne, hx⟩
    · refine ⟨some (g, cap), by simp [Cx.tok], cur', setRow_heap w g cur cur' e _ hg, hn, a3, by rw [hs', a4], a5, fun o ho hk => ?_⟩
      rcases hk with hk | ⟨_, hk⟩
      · exact a6 o (Nat.le_trans (Nat.mul_le_mul_right sz (Nat.le_of_lt hmn)) ho) hk
      · omega
    · obtain ⟨hlt, hun⟩ := hw.bh x k hx
      have hng : ∀ h, place c x k = some h → h ≠ g := fun h hp e' => hne (hw.inj x b k _ h hx hb hp (by rw [hpl, e']))
      refine (hw.blk x k hx).mono hst hlt hun (fun h hp => hheap h (hng h hp)) (fun h o hp hk => ?_) (by simp [Cx.tok, hne])
      rcases hk with hk | ⟨rfl, _⟩
      · exact hk
      · exact absurd rfl (hng _ hp)
  · rcases hset_some hx with ⟨rfl, rfl⟩ | ⟨hne, hx0⟩ <;> rcases hset_some hx' with ⟨rfl, rfl⟩ | ⟨hne', hx0'⟩
    · rfl
    · rw [hme] at hp
      rw [hold _ _ hne'] at hp'
      cases hp
      exact hw.inj _ _ _ _ _ hb hx0' hpl hp'
    · rw [hme] at hp'
      rw [hold _ _ hne] at hp
      cases hp'
      exact hw.inj _ _ _ _ _ hx0 hb hp hpl
    · rw [hold _ _ hne] at hp
      rw [hold _ _ hne'] at hp'
      exact hw.inj x x' k k' h hx0 hx0' hp hp'
  · rcases hset_some hx with ⟨rfl, rfl⟩ | ⟨hne, hx0⟩
    · exact ⟨hbx, rfl⟩
    · exact hw.bh x k hx0
  · rcases hset_some hx with ⟨rfl, rfl⟩ | ⟨hne, hx0⟩
    · exact hw.dm _ _ hb hlt
    · exact hw.dm x k hx0 hlt
  · rcases hk with hk | ⟨rfl, _⟩
    · have := hw.kb h o hk; simpa [World.setRow] using this
    · have := (Array.getElem?_eq_some_iff.1 hg).1; simpa [World.setRow] using this
  · have := hw.fb h hf; simpa [World.setRow] using this
  · rcases hk with hk | ⟨rfl, _⟩
    · exact .inl hk
    · exact .inr a5
  · have : x ≠ b := fun e' => hd (e' ▸ hw.dm _ _ hb (e' ▸ hx))
    simp [Cx.tok, this]

end Qa

namespace Qa
open Go

theorem run_append_nila {P : Program} (w : World) (t ty e : TypeId) (i : TypeInfo) (z : Value) (ht : P.underlying t = some (.slice e)) (hi : P.info? e = some i) (hz : i.zero = some z) (b : Option Addr)
    (a : Addr) (n c : Nat) (news : List Value) (hl : news.length = n * i.size) (hnews : ∀ j v, news[j]? = some v → w.cell? (a.add j) = some v)
    (h0 : 0 < n) (h63 : (n : Int) ≤ 9223372036854775807) (h48 : n * i.bytes ≤ 140737488355328) :
    (Builtin.append_ #[t, t] ty #[.slice b 0 0, .slice (some a) n c]).run P w =
      .ok (.slice (some ⟨w.heap.size, 0, none⟩) n (grownCap w n 0 e)) (w.drew.alloc (.cells (news.toArray ++ Builtin.zeroCells z.cells (grownCap w n 0 e - n)) e)) := by
  cases b with
  | none => exact run_append_nil (P := P) w t ty e i z ht hi hz a n c news hl hnews h0 h63 (by omega)
  | some b =>
    have h := run_append_grow (P := P) w t ty e i z ht hi hz b 0 0 [] (by simp) (by simp) a n c news hl hnews (by omega) (by simpa using h63) (growslice_fits (by omega) (by simpa using h48))
    simpa using h

theorem run_append_zero {P : Program} {t e : TypeId} {i : TypeInfo} (ht : P.underlying t = some (.slice e)) (hi : P.info? e = some i) (base a : Option Addr) (n cap c : Nat) (h : n ≤ cap) (ty : TypeId) (w : World) :
    (Builtin.append_ #[t, t] ty #[.slice base n cap, .slice a 0 c]).run P w = .ok (.slice base n cap) w := by
  have hf : (Builtin.firstCells i.size 0 (.slice a 0 c)).run P w = .ok #[] w := by
    cases a <;> simp [Builtin.firstCells, loadCells, loadCellsFrom]
  cases base <;> simp [Builtin.append_, run_underlying ht, Go.sizeOf, info_run hi, Builtin.lenOf, h, hf, storeCells]

/-- the pure list that a value is. -/
def D.list? : D → Option (List Pd)
  | .p (.list xs) => some xs
  | .full xs => some xs
  | .acc _ xs => some xs
  | .nilsl => some []
  | _ => none

theorem list?_rp {c : Cx} {w : World} {d : D} {ys : List Pd} {v : Value} (hd : d.list? = some ys) (h : Rd c w d v) : Rp c.K w (.list ys) v := by
  unfold D.list? at hd
  split at hd
  · cases hd; exact h
  · cases hd; exact h.1
  · cases hd; exact h.1
  · cases hd; have : v = .slice none 0 0 := h; subst this; exact .nil
  · cases hd

theorem hset_self {H : Heap} {b : Nat} {k : Blk} (h : H b = some k) : hset H b k = H := by
  funext x
  by_cases e : x = b
  · subst e; rw [hset_same, h]
  · rw [hset_ne H k e]

theorem app_acc {P : Program} {T : Ty} (hT : TyOk P T) {t e : TypeId} {sz by_ : Nat} (ht : (T t).d = .slice e sz by_) (h0 : 0 < sz) (hb0 : 0 < by_)
    {n0 : Nat} {d0 F : Nat → Prop} {H : Heap} {nx nx' : Ids} {c : Cx} {w : World} (hw : WRel n0 d0 H nx c F w) {b : Nat} {xs ys : List Pd} {v x : Value}
    (hx : Rp c.K w (.list ys) x) (hv : Rp c.K w (.list xs) v) (hsz : ∀ z ∈ xs ++ ys, z.cells.length = sz) (hby : (xs.length + ys.length) * by_ ≤ 140737488355328)
    (hb : (H b = some (.tok e sz xs.length) ∧ (∃ p, c.τ b = some (xs.length, p) ∧ v = tokVal xs.length p) ∧ nx' = nx) ∨ (nx b = false ∧ v = .slice none 0 0 ∧ xs = [] ∧ ys ≠ [] ∧ nx' = iadd nx b)) :
    ∃ v' w' c', (∀ ty, (Builtin.append_ #[t, t] ty #[v, x]).run P w = .ok v' w') ∧ Rd c' w' (.acc b (xs ++ ys)) v' ∧
      WRel n0 d0 (hset H b (.tok e sz (xs ++ ys).length)) nx' c' F w' ∧ Step nx c w c' w' ∧ Later n0 d0 F c w c' w' := by
  have hu := (hT t).und
  rw [ht] at hu
  obtain ⟨hun, i, z, hi, hsi, hbi, hz, hzs⟩ := hu
  have hml : xs.length + ys.length ≤ 140737488355328 := Nat.le_trans (Nat.le_mul_of_pos_right _ hb0) hby
  have hmax : xs.length + ys.length ≤ maxLen := by unfold maxLen; omega
  -- nothing appended
  by_cases hy : ys = []
  · subst hy
    rcases hb with ⟨hH, ⟨p, hp, hvp⟩, hnx⟩ | ⟨_, _, _, h, _⟩
    · have hsl : ∃ base n cap, v = .slice base n cap ∧ n ≤ cap := by
        cases hv with
        | nil => exact ⟨none, 0, 0, rfl, Nat.le_refl _⟩
        | nila a => exact ⟨some a, 0, 0, rfl, Nat.le_refl _⟩
        | list g o cap _ _ _ hcap => exact ⟨_, _, cap, rfl, hcap⟩
      obtain ⟨base, n, cap, rfl, hnc⟩ := hsl
      have hxl : ∃ a c', x = .slice a 0 c' := by
        generalize hys : ([] : List Pd) = ys0 at hx
        cases hx with
        | nil => exact ⟨none, 0, rfl⟩
        | nila a => exact ⟨some a, 0, rfl⟩
        | list g o cap => subst hys; exact ⟨_, cap, rfl⟩
      obtain ⟨a, cx, rfl⟩ := hxl
      subst hnx
      refine ⟨_, w, c, fun ty => run_append_zero hun hi base a n cap cx hnc ty w, ?_, ?_, Step.refl _ _ _, Later.refl _ _ _ _ _⟩
      · rw [List.append_nil]
        exact ⟨hv, fun n p' he => by rw [hp] at he; cases he; exact ⟨Nat.le_refl _, fun _ => hvp⟩⟩
      · rw [List.append_nil, hset_self hH]; exact hw
    · exact absurd rfl h
  -- something appended
  have hpos : 0 < ys.length := List.length_pos_iff.2 hy
  rcases hx.cellsOf (fun y hy => hsz y (by simp [hy])) h0 with ⟨_, h⟩ | ⟨gx, ox, capx, us, rfl, hul, _, huc, hur⟩
  · exact absurd h hy
  have hul' : us.length = ys.length * i.size := by rw [hsi]; exact hul
  have hnews : ∀ j u, us[j]? = some u → w.cell? ((⟨gx, ox, none⟩ : Addr).add j) = some u := fun j u hj => by rw [add_none]; exact (huc j u hj).2.1
  -- the result in a new block
  have fresh : ∀ (xc : List Value) (cap : Nat) (rest : List Value), xc.length = xs.length * sz → xs.length + ys.length ≤ cap → cap ≤ maxLen → (xc ++ us ++ rest).length = cap * sz →
      (∀ (t : Nat) (u : Value), xc[t]? = some u → u.oneCell' = true) →
      (∀ (i : Nat) (y : Pd) (j : Nat) (q : Pd), xs[i]? = some y → y.cells[j]? = some q → ∃ u, xc[i * sz + j]? = some u ∧ Rp c.K w q u) →
      ((nx b = true ∧ (∃ m, H b = some (.tok e sz m)) ∧ nx' = nx ∧ ∃ m p, c.τ b = some (m, p) ∧ m < xs.length + ys.length) ∨ (nx b = false ∧ nx' = iadd nx b)) →
      ∃ c', Rd c' (w.drew.alloc (.cells (xc ++ us ++ rest).toArray e)) (.acc b (xs ++ ys)) (.slice (some ⟨w.heap.size, 0, none⟩) (xs.length + ys.length) cap) ∧
        WRel n0 d0 (hset H b (.tok e sz (xs ++ ys).length)) nx' c' F (w.drew.alloc (.cells (xc ++ us ++ rest).toArray e)) ∧ Step nx c w c' (w.drew.alloc (.cells (xc ++ us ++ rest).toArray e)) ∧
        Later n0 d0 F c w c' (w.drew.alloc (.cells (xc ++ us ++ rest).toArray e)) := by
    intro xc cap rest hxl hcap hcm hlen h1 hxr hbb
    rw [← List.length_append] at hcap hbb
    obtain ⟨a1, a2, a3⟩ := tok_new hw (e := e) (sz := sz) (cap := cap) (cur := (xc ++ us ++ rest).toArray) hbb hcap hcm (by simpa using hlen)
    refine ⟨_, ⟨?_, fun n p he => ?_⟩, a1, a2, a3⟩
    · rw [← List.length_append]
      refine Rp.mkList (us := xc ++ us) hcap hsz (fun t u hu => ?_) fun i y j q hiy hjq => ?_
      · have htl : t < (xs ++ ys).length * sz := by
          have := (List.getElem?_eq_some_iff.1 hu).1
          rw [List.length_append, hxl, hul, ← Nat.add_mul, ← List.length_append] at this
          exact this
        refine ⟨.inr ⟨rfl, htl⟩, ?_, ?_⟩
        · have hnew : (w.drew.alloc (.cells (xc ++ us ++ rest).toArray e)).heap[w.heap.size]? = some (.cells (xc ++ us ++ rest).toArray e (0, 0)) := heap_alloc_new w.drew _
          rw [cell_of_row _ _ t _ _ _ hnew]
          have hlt := (List.getElem?_eq_some_iff.1 hu).1
          simp only [List.getElem?_toArray]
          rw [List.getElem?_append_left hlt]; exact hu
        · by_cases ht : t < xc.length
          · rw [List.getElem?_append_left ht] at hu; exact h1 t u hu
          · rw [List.getElem?_append_right (Nat.le_of_not_lt ht)] at hu; exact (huc _ u hu).2.2
      · by_cases hi : i < xs.length
        · rw [List.getElem?_append_left hi] at hiy
          obtain ⟨u, hu, hr⟩ := hxr i y j q hiy hjq
          exact ⟨u, by rw [List.getElem?_append_left (List.getElem?_eq_some_iff.1 hu).1]; exact hu, hr.mono a2.k⟩
        · rw [List.getElem?_append_right (Nat.le_of_not_lt hi)] at hiy
          obtain ⟨u, hu, hr⟩ := hur _ y j q hiy hjq
          refine ⟨u, ?_, hr.mono a2.k⟩
          have hge : xc.length ≤ i * sz + j := by rw [hxl]; exact Nat.le_trans (Nat.mul_le_mul_right sz (Nat.le_of_not_lt hi)) (Nat.le_add_right _ _)
          rw [List.getElem?_append_right hge, hxl]
          rw [show i * sz + j - xs.length * sz = (i - xs.length) * sz + j by rw [Nat.sub_mul]; have := Nat.mul_le_mul_right sz (Nat.le_of_not_lt hi); omega]
          exact hu
    · simp [Cx.tok] at he
      obtain ⟨rfl, rfl⟩ := he
      exact ⟨by simp, fun _ => by simp [tokVal]⟩
  have grown_ge := grownCap_ge
  have viaNil : v = .slice none 0 0 → xs = [] → ((nx b = true ∧ (∃ m, H b = some (.tok e sz m)) ∧ nx' = nx ∧ ∃ m p, c.τ b = some (m, p) ∧ m < xs.length + ys.length) ∨ (nx b = false ∧ nx' = iadd nx b)) →
      ∃ v' w' c', (∀ ty, (Builtin.append_ #[t, t] ty #[v, .slice (some ⟨gx, ox, none⟩) ys.length capx]).run P w = .ok v' w') ∧ Rd c' w' (.acc b (xs ++ ys)) v' ∧
      WRel n0 d0 (hset H b (.tok e sz (xs ++ ys).length)) nx' c' F w' ∧ Step nx c w c' w' ∧ Later n0 d0 F c w c' w' := by
    rintro rfl rfl hbb
    have hr := fun ty => run_append_nil (P := P) w t ty e i z hun hi hz ⟨gx, ox, none⟩ ys.length capx us hul' hnews hpos (by omega) (by rw [hbi]; simp at hby; omega)
    have hge := grownCap_ge w ys.length 0 e
    have hgm := grownCap_le_maxLen w ys.length 0 e (by simpa using hmax)
    obtain ⟨c', h1, h2, h3, h4⟩ := fresh [] (grownCap w ys.length 0 e) (Builtin.zeroCells z.cells (grownCap w ys.length 0 e - ys.length)).toList (by simp) (by simpa using hge) hgm
      (by simp only [List.nil_append, List.length_append, Array.length_toList, size_zeroCells, hzs, hul, ← Nat.add_mul]; congr 1; omega) (by simp) (by simp) hbb
    refine ⟨_, _, c', fun ty => (hr ty).trans ?_, h1, h2, h3, h4⟩
    have e1 : us.toArray ++ Builtin.zeroCells z.cells (grownCap w ys.length 0 e - ys.length) = ([] ++ us ++ (Builtin.zeroCells z.cells (grownCap w ys.length 0 e - ys.length)).toList).toArray := by
      apply Array.toList_inj.1; simp
    rw [e1]; simp
  rcases hb with ⟨hH, ⟨p, hp, hvp⟩, hnx⟩ | ⟨hbn, hvn, hxn, _, hnx⟩
  · have hbx := (hw.bh b _ hH).1
    have hbb : (nx b = true ∧ (∃ m, H b = some (.tok e sz m)) ∧ nx' = nx ∧ ∃ m p, c.τ b = some (m, p) ∧ m < xs.length + ys.length) := ⟨hbx, ⟨_, hH⟩, hnx, _, p, hp, by omega⟩
    obtain ⟨p', hp', hblk⟩ := hw.blk b _ hH
    rw [hp] at hp'
    cases hp'
    cases p with
    | none => exact viaNil hvp (List.length_eq_zero_iff.1 hblk) (.inl hbb)
    | some q =>
      obtain ⟨g, cap⟩ := q
      obtain ⟨cur, hg, hnc, hcm, hcs, hnF, hnK⟩ := hblk
      simp only [tokVal] at hvp
      have hxc : ∃ xc : List Value, xc.length = xs.length * sz ∧ (∀ (t : Nat) (u : Value), xc[t]? = some u → w.cell? ⟨g, t, none⟩ = some u ∧ u.oneCell' = true) ∧
          (∀ (i : Nat) (y : Pd) (j : Nat) (q : Pd), xs[i]? = some y → y.cells[j]? = some q → ∃ u, xc[i * sz + j]? = some u ∧ Rp c.K w q u) := by
        rcases hv.cellsOf (fun y hy => hsz y (by simp [hy])) h0 with ⟨h, hx0⟩ | ⟨g2, o2, cap2, xc, h, h1, _, h2, h3⟩
        · subst hx0
          exact ⟨[], by simp, by simp, by simp⟩
        · rw [hvp] at h
          cases h
          exact ⟨xc, h1, fun t u hu => by have := (h2 t u hu).2; simpa using this, h3⟩
      obtain ⟨xc, hxl, hxc1, hxr⟩ := hxc
      have htake : cur.toList.take (xs.length * sz) = xc := by
        apply List.ext_getElem?
        intro t
        rw [List.getElem?_take]
        split
        · rename_i ht
          have : xc[t]? = some (xc[t]'(by omega)) := List.getElem?_eq_getElem (by omega)
          have h2 := (hxc1 t _ this).1
          rw [cell_of_row w g t _ _ _ hg] at h2
          rw [this]; simpa using h2
        · rename_i ht
          exact (List.getElem?_eq_none (by omega)).symm
      have holds : ∀ j u, xc[j]? = some u → w.cell? ((⟨g, 0, none⟩ : Addr).add j) = some u := fun j u hj => by rw [add_none, Nat.zero_add]; exact (hxc1 j u hj).1
      by_cases hroom : xs.length + ys.length ≤ cap
      · have hfit : xs.length * i.size + us.length ≤ cur.size := by rw [hsi, hul, hcs, ← Nat.add_mul]; exact Nat.mul_le_mul_right _ hroom
        have hr := fun ty => run_append_room (P := P) w t ty e i hun hi g xs.length cap cur hg ⟨gx, ox, none⟩ ys.length capx us hul' hnews (fun u hu => by
          obtain ⟨j, hj⟩ := List.getElem?_of_mem hu
          exact (huc j u hj).2.2) hroom hfit
        rw [hsi, htake] at hr
        generalize hcur' : (xc ++ us ++ cur.toList.drop (xs.length * sz + us.length)).toArray = cur' at hr
        have hcs' : cur'.size = cur.size := by
          subst hcur'
          rw [hsi] at hfit
          simp only [List.size_toArray, List.length_append, hxl, List.length_drop, Array.length_toList]
          omega
        have hget : ∀ t, t < (xc ++ us).length → cur'[t]? = (xc ++ us)[t]? := fun t ht => by
          subst hcur'
          simp only [List.getElem?_toArray]
          rw [List.getElem?_append_left ht]
        have hn : (xs ++ ys).length = xs.length + ys.length := List.length_append
        obtain ⟨a1, a2, a3⟩ := tok_room hw hH hp hg (n := (xs ++ ys).length) (by omega) (by omega) hcs' (fun t ht => by
          rw [hget t (by simp; omega), List.getElem?_append_left (by omega), ← htake, List.getElem?_take, if_pos ht]; simp)
        subst hnx
        refine ⟨_, _, _, fun ty => by rw [hvp]; exact hr ty, ⟨?_, fun n p he => ?_⟩, a1, a2, a3⟩
        · rw [← hn]
          refine Rp.mkList (us := xc ++ us) (by omega) hsz (fun t u hu => ?_) fun i y j q hiy hjq => ?_
          · have hlt := (List.getElem?_eq_some_iff.1 hu).1
            have htl : t < (xs ++ ys).length * sz := by
              rw [List.length_append, hxl, hul, ← Nat.add_mul, ← List.length_append] at hlt; exact hlt
            refine ⟨.inr ⟨rfl, htl⟩, ?_, ?_⟩
            · rw [cell_of_row _ _ t _ _ _ (setRow_heap w g cur cur' e _ hg), hget t hlt]; exact hu
            · by_cases ht : t < xc.length
              · rw [List.getElem?_append_left ht] at hu; exact (hxc1 t u hu).2
              · rw [List.getElem?_append_right (Nat.le_of_not_lt ht)] at hu; exact (huc _ u hu).2.2
          · by_cases hi : i < xs.length
            · rw [List.getElem?_append_left hi] at hiy
              obtain ⟨u, hu, hr⟩ := hxr i y j q hiy hjq
              exact ⟨u, by rw [List.getElem?_append_left (List.getElem?_eq_some_iff.1 hu).1]; exact hu, hr.mono a2.k⟩
            · rw [List.getElem?_append_right (Nat.le_of_not_lt hi)] at hiy
              obtain ⟨u, hu, hr⟩ := hur _ y j q hiy hjq
              refine ⟨u, ?_, hr.mono a2.k⟩
              have hge : xc.length ≤ i * sz + j := by rw [hxl]; exact Nat.le_trans (Nat.mul_le_mul_right sz (Nat.le_of_not_lt hi)) (Nat.le_add_right _ _)
              rw [List.getElem?_append_right hge, hxl]
              rw [show i * sz + j - xs.length * sz = (i - xs.length) * sz + j by rw [Nat.sub_mul]; have := Nat.mul_le_mul_right sz (Nat.le_of_not_lt hi); omega]
              exact hu
        · simp [Cx.tok] at he
          obtain ⟨rfl, rfl⟩ := he
          exact ⟨by simp, fun _ => by simp [tokVal]⟩
      · have hr := fun ty => run_append_grow (P := P) w t ty e i z hun hi hz ⟨g, 0, none⟩ xs.length cap xc (by rw [hsi]; exact hxl) holds ⟨gx, ox, none⟩ ys.length capx us hul' hnews (by omega) (by omega)
          (growslice_fits (by omega) (by rw [hbi]; exact hby))
        have hge := grownCap_ge w (xs.length + ys.length) cap e
        have hgm := grownCap_le_maxLen w (xs.length + ys.length) cap e hmax
        obtain ⟨c', h1, h2, h3, h4⟩ := fresh xc (grownCap w (xs.length + ys.length) cap e) (Builtin.zeroCells z.cells (grownCap w (xs.length + ys.length) cap e - (xs.length + ys.length))).toList hxl hge hgm
          (by simp only [List.length_append, Array.length_toList, size_zeroCells, hzs, hul, hxl, ← Nat.add_mul]; congr 1; omega) (fun t u hu => (hxc1 t u hu).2) hxr (.inl hbb)
        have e1 : xc.toArray ++ us.toArray ++ Builtin.zeroCells z.cells (grownCap w (xs.length + ys.length) cap e - (xs.length + ys.length)) =
            (xc ++ us ++ (Builtin.zeroCells z.cells (grownCap w (xs.length + ys.length) cap e - (xs.length + ys.length))).toList).toArray := by
          apply Array.toList_inj.1; simp
        rw [e1] at hr
        exact ⟨_, _, c', fun ty => by rw [hvp]; exact hr ty, h1, h2, h3, h4⟩
  · exact viaNil hvn hxn (.inr ⟨hbn, hnx⟩)

end Qa
