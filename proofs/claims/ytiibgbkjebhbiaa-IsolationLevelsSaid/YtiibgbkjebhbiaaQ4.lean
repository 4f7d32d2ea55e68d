/-
  Regions whose order is left open: operations that touch different things may be done in any order.
  Part of a proof about the program's own text; written by an AI agent. No statement is proved here: the lemmas that the last text needs.
-/
import Derived.Test.YtiibgbkjebhbiaaQ3
namespace Qa
open Go

/-- what one operation of a region did when they ran in the order of the text. -/
structure Ent where
  o : Oper
  A : Tmps
  H : Heap
  ex : Bool
  d : D
  W : List (Nat × Blk)
  fp : Fp
  lo : Nat
  hi : Nat
  ins : Option (Nat × Pd × Pd) := none

/-- an entry is put into a map. -/
def hins (H : Heap) (b : Nat) (q y : Pd) : Heap := match H b with | some (.map kd f) => hset H b (.map kd (mput f q y)) | _ => H
theorem hins_ne {H : Heap} {b x : Nat} {q y : Pd} (h : x ≠ b) : hins H b q y x = H x := by
  unfold hins
  cases hH : H b with
  | none => rfl
  | some k => cases k <;> first | rfl | exact hset_ne _ _ h
theorem hins_at {H : Heap} {b : Nat} {q y : Pd} : hins H b q y b = (match H b with | some (.map kd f) => some (.map kd (mput f q y)) | r => r) := by
  unfold hins
  cases hH : H b with
  | none => exact hH
  | some k => cases k <;> first | exact hH | exact hset_same _ _ _ | (exact hset_same _ _)
def hin (H : Heap) : Option (Nat × Pd × Pd) → Heap
  | none => H
  | some (b, q, y) => hins H b q y
def happ (H : Heap) (e : Ent) : Heap := hin (hsets H e.W) e.ins
def touch (e : Ent) (b : Nat) : Prop := (∃ x ∈ e.W, x.1 = b) ∨ ∃ q y, e.ins = some (b, q, y)

theorem touch_none {e : Ent} (h1 : e.W = []) (h2 : e.ins = none) (b : Nat) (h : touch e b) : b ∈ e.fp.w := by
  rcases h with ⟨x, hx, _⟩ | ⟨q, y, he⟩
  · rw [h1] at hx; simp at hx
  · rw [h2] at he; cases he

def AS (S : Nat → Bool) : List Ent → Nat → Tmps → Tmps
  | [], _, A => A
  | e :: es, i, A => AS S es (i + 1) (if S i then put' A e.o.dst e.d else A)
def HS (S : Nat → Bool) : List Ent → Nat → Heap → Heap
  | [], _, H => H
  | e :: es, i, H => HS S es (i + 1) (if S i then happ H e else H)

/-- what an operation that ran did, from all states that agree where it looks. -/
def Does (P : Program) (e : Ent) : Prop :=
  (e.ins = none ∧ (∀ t m k v, e.o.op ≠ .insert t m k v) ∧ ∀ (H2 : Heap) (V : Ids), (∀ b ∈ e.fp.r ++ e.fp.w, H2 b = e.H b) → (∀ b, e.lo ≤ b → b < e.hi → V b = false) → OpOut P e.o.op e.A H2 V e.d (hsets H2 e.W) (iups V e.lo e.hi)) ∨
  (∃ b q y kd t m k v, e.ins = some (b, q, y) ∧ e.W = [] ∧ e.hi = e.lo ∧ e.d = .tup [] ∧ e.o.op = .insert t m k v ∧ ev e.A k = .p q ∧ b ∈ e.fp.w ∧ (∃ f, e.H b = some (.map kd f)) ∧
    ∀ (H2 : Heap) (V : Ids) (f : MapF), H2 b = some (.map kd f) → OpOut P e.o.op e.A H2 V (.tup []) (hset H2 b (.map kd (mput f q y))) V)

/-- the run in the order of the text, as a list of what each did. -/
def Runs (P : Program) (ops : List Oper) : List Ent → Tmps → Heap → Tmps → Heap → Prop
  | [], A, H, A', H' => A' = A ∧ H' = H
  | e :: es, A, H, A', H' => e.A = A ∧ e.H = H ∧ (∀ b, touch e b → b ∈ e.fp.w) ∧
    ((e.ex = true ∧ (match e.o.guard with | none => True | some (j, want) => ∃ t, guardTmp ops j = some t ∧ A t = .p (.bool want)) ∧ Does P e) ∨
      (e.ex = false ∧ e.d = .tup [] ∧ e.W = [] ∧ e.ins = none ∧ e.hi = e.lo ∧ ∃ j want t, e.o.guard = some (j, want) ∧ guardTmp ops j = some t ∧ (A t = .p (.bool (!want)) ∨ A t = .tup []))) ∧
    Runs P ops es (put' A e.o.dst e.d) (happ H e) A' H'

/-- each takes its ids behind those of the one before. -/
def Chain : List Ent → Nat → Nat → Prop
  | [], n, m => m = n
  | e :: es, n, m => e.lo = n ∧ n ≤ e.hi ∧ Chain es e.hi m
theorem Chain.le : ∀ {es : List Ent} {n m : Nat}, Chain es n m → n ≤ m
  | [], _, _, h => by cases h; exact Nat.le_refl _
  | _ :: _, _, _, h => Nat.le_trans h.2.1 h.2.2.le
theorem Chain.at : ∀ {es : List Ent} {n m : Nat}, Chain es n m → ∀ (k : Nat) (e : Ent), es[k]? = some e → n ≤ e.lo ∧ e.lo ≤ e.hi ∧ e.hi ≤ m
  | [], _, _, _, k, e, h => by simp at h
  | x :: es, n, m, hc, 0, e, h => by
    simp at h; subst h
    obtain ⟨h1, h2, h3⟩ := hc
    exact ⟨by omega, by omega, h3.le⟩
  | x :: es, n, m, hc, k + 1, e, h => by
    obtain ⟨h1, h2, h3⟩ := hc
    have := h3.at k e (by simpa using h)
    exact ⟨by omega, this.2⟩
theorem Chain.ord {es : List Ent} : ∀ {n m : Nat}, Chain es n m → ∀ (j k : Nat) (x e : Ent), j < k → es[j]? = some x → es[k]? = some e → x.hi ≤ e.lo := by
  induction es with
  | nil => intro n m _ j k x e _ h; simp at h
  | cons y es ih =>
    intro n m hc j k x e hlt hx he
    obtain ⟨h1, h2, h3⟩ := hc
    cases k with
    | zero => exact absurd hlt (Nat.not_lt_zero _)
    | succ k =>
      rw [List.getElem?_cons_succ] at he
      cases j with
      | zero =>
        rw [List.getElem?_cons_zero] at hx
        cases hx
        exact (h3.at k e he).1
      | succ j =>
        rw [List.getElem?_cons_succ] at hx
        exact ih h3 j k x e (by omega) hx he
/-- the ids in use when a set of them is done. -/
def VS (S : Nat → Bool) : List Ent → Nat → Ids → Ids
  | [], _, V => V
  | e :: es, i, V => VS S es (i + 1) (if S i then iups V e.lo e.hi else V)
theorem VS_iff {S : Nat → Bool} {b : Nat} : ∀ (es : List Ent) (i : Nat) (V : Ids), VS S es i V b = true ↔ V b = true ∨ ∃ j e, es[j]? = some e ∧ S (i + j) = true ∧ e.lo ≤ b ∧ b < e.hi
  | [], _, V => by simp [VS]
  | x :: es, i, V => by
    simp only [VS]
    rw [VS_iff es (i + 1)]
    constructor
    · rintro (h | ⟨j, e, h1, h2, h3⟩)
      · split at h
        · rename_i hs
          rcases iups_iff.1 h with h | h
          · exact .inr ⟨0, x, rfl, by simpa using hs, h⟩
          · exact .inl h
        · exact .inl h
      · exact .inr ⟨j + 1, e, by simpa using h1, by rw [show i + (j + 1) = i + 1 + j by omega]; exact h2, h3⟩
    · rintro (h | ⟨j, e, h1, h2, h3⟩)
      · left; split
        · exact iups_iff.2 (.inr h)
        · exact h
      · cases j with
        | zero =>
          simp at h1; subst h1
          left; rw [if_pos (by simpa using h2)]
          exact iups_iff.2 (.inl h3)
        | succ j => exact .inr ⟨j, e, by simpa using h1, by rw [show i + 1 + j = i + (j + 1) by omega]; exact h2, h3⟩
theorem VS_fin : ∀ {es : List Ent} {n m : Nat}, Chain es n m → ∀ (i : Nat) (S : Nat → Bool), (∀ j, j < es.length → S (i + j) = true) → VS S es i (below n) = below m
  | [], _, _, h, _, _, _ => by cases h; rfl
  | x :: es, n, m, hc, i, S, hs => by
    obtain ⟨h1, h2, h3⟩ := hc
    have h0 := hs 0 (by simp)
    simp only [Nat.add_zero] at h0
    simp only [VS, h0, if_true]
    rw [h1, iups_below h2]
    exact VS_fin h3 (i + 1) S fun j hj => by have := hs (j + 1) (by simp; omega); rwa [Nat.add_assoc, Nat.add_comm 1 j]

theorem upd_self {A : Tmps} {t : Nat} {d : D} (h : A t = d) : upd A t d = A := by
  funext x
  by_cases e : x = t
  · subst e; rw [upd_same, h]
  · rw [upd_ne A d e]

theorem arunD_runs {P : Program} {T : Ty} (hT : TyOk P T) {ops : List Oper} : ∀ (os : List Oper) (A : Tmps) (H : Heap) (nx : Nat) (fps : List Fp) (K : List Fp → Tmps → Heap → Nat → Prop), arunD P T ops os A H nx fps K →
    ∃ (es : List Ent) (A' : Tmps) (H' : Heap) (m : Nat), es.map (·.o) = os ∧ Runs P ops es A H A' H' ∧ Chain es nx m ∧ K (fps ++ es.map (·.fp)) A' H' m
  | [], A, H, nx, fps, K, h => ⟨[], A, H, nx, rfl, ⟨rfl, rfl⟩, rfl, by simpa [arunD] using h⟩
  | o :: os, A, H, nx, fps, K, h => by
    have step : (match o.guard with | none => True | some (j, want) => ∃ t, guardTmp ops j = some t ∧ A t = .p (.bool want)) →
        (op1 P T o.op A H nx fun d H nx fp => match o.dst with
            | some t => arunD P T ops os (upd A t d) H nx (fps ++ [fp]) K
            | none => arunD P T ops os A H nx (fps ++ [fp]) K) →
        ∃ (es : List Ent) (A' : Tmps) (H' : Heap) (m : Nat), es.map (·.o) = o :: os ∧ Runs P ops es A H A' H' ∧ Chain es nx m ∧ K (fps ++ es.map (·.fp)) A' H' m := by
      intro hg h
      by_cases hin : ∃ t m k v, o.op = .insert t m k v
      · obtain ⟨t, m, k, v, hoi⟩ := hin
        have h' : updMapK T t (ev A m) (ev A k) (ev A v) H fun H' fp => (match o.dst with
            | some t => arunD P T ops os (upd A t (.tup [])) H' nx (fps ++ [fp]) K
            | none => arunD P T ops os A H' nx (fps ++ [fp]) K) := by rw [hoi] at h; exact h
        obtain ⟨kt, et, b, q, y, kd, f, ht, hm, hkq, hy, htd, hq, hH, hk⟩ := updMapK_inv h'
        have hk : arunD P T ops os (put' A o.dst (.tup [])) (hset H b (.map kd (mput f q y))) nx (fps ++ [⟨[], [b]⟩]) K := by cases hd : o.dst <;> simp only [hd] at hk <;> exact hk
        obtain ⟨es, A', H', mm, e1, e2, e4, e3⟩ := arunD_runs hT os _ _ _ _ K hk
        have hap : happ H ⟨o, A, H, true, .tup [], [], ⟨[], [b]⟩, nx, nx, some (b, q, y)⟩ = hset H b (.map kd (mput f q y)) := by simp [happ, hin, hins, hsets, hH]
        refine ⟨⟨o, A, H, true, .tup [], [], ⟨[], [b]⟩, nx, nx, some (b, q, y)⟩ :: es, A', H', mm, by simp [e1], ⟨rfl, rfl, fun b' hb' => ?_, .inl ⟨rfl, hg, .inr ⟨b, q, y, kd, t, m, k, v, rfl, rfl, rfl, rfl, hoi, hkq, by simp, ⟨f, hH⟩, fun H2 V f2 hH2 => ?_⟩⟩, by rw [hap]; exact e2⟩,
          ⟨rfl, Nat.le_refl _, e4⟩, by simpa using e3⟩
        · rcases hb' with ⟨x, hx, _⟩ | ⟨q', y', he⟩
          · simp at hx
          · simp at he; simp [he.1]
        · exact insMap_any hT (.inr hoi) ht hm hkq hy htd hq V H2 f2 hH2
      obtain ⟨d, W, nx', fp, hk, hle, hW, ho⟩ := op1_loc hT h
      have hk : arunD P T ops os (put' A o.dst d) (hsets H W) nx' (fps ++ [fp]) K := by cases hd : o.dst <;> simp only [hd] at hk <;> exact hk
      obtain ⟨es, A', H', m, e1, e2, e4, e3⟩ := arunD_runs hT os _ _ _ _ K hk
      refine ⟨⟨o, A, H, true, d, W, fp, nx, nx', none⟩ :: es, A', H', m, by simp [e1], ⟨rfl, rfl, fun b hb => ?_, .inl ⟨rfl, hg, .inl ⟨rfl, fun t m k v he => hin ⟨t, m, k, v, he⟩, ho⟩⟩, e2⟩, ⟨rfl, hle, e4⟩, by simpa using e3⟩
      rcases hb with ⟨x, hx, rfl⟩ | ⟨q, y, he⟩
      · exact hW x hx
      · cases he
    have skip : (∃ j want t, o.guard = some (j, want) ∧ guardTmp ops j = some t ∧ (A t = .p (.bool (!want)) ∨ A t = .tup [])) →
        (match o.dst with
          | some s => arunD P T ops os (upd A s (.tup [])) H nx (fps ++ [fp0]) K
          | none => arunD P T ops os A H nx (fps ++ [fp0]) K) →
        ∃ (es : List Ent) (A' : Tmps) (H' : Heap) (m : Nat), es.map (·.o) = o :: os ∧ Runs P ops es A H A' H' ∧ Chain es nx m ∧ K (fps ++ es.map (·.fp)) A' H' m := by
      intro hg hk
      have hk : arunD P T ops os (put' A o.dst (.tup [])) (hsets H []) nx (fps ++ [fp0]) K := by cases hd : o.dst <;> simp only [hd] at hk <;> exact hk
      obtain ⟨es, A', H', m, e1, e2, e4, e3⟩ := arunD_runs hT os _ _ _ _ K hk
      exact ⟨⟨o, A, H, false, .tup [], [], fp0, nx, nx, none⟩ :: es, A', H', m, by simp [e1], ⟨rfl, rfl, (touch_none rfl rfl), .inr ⟨rfl, rfl, rfl, rfl, rfl, hg⟩, e2⟩, ⟨rfl, Nat.le_refl _, e4⟩, by simpa using e3⟩
    simp only [arunD] at h
    split at h
    · rename_i hg
      exact step (by rw [hg]; trivial) h
    · rename_i j want hg
      split at h
      case h_2 => simp [stuckP] at h
      rename_i t ht
      split at h
      · rename_i c hA
        split at h
        · rcases condB_cases h with ⟨rfl, h⟩ | ⟨rfl, h⟩
          · rw [upd_self hA] at h
            exact step (by rw [hg]; exact ⟨t, ht, hA⟩) h
          · rw [upd_self hA] at h
            exact skip ⟨j, true, t, hg, ht, .inl hA⟩ h
        · rcases condB_cases h with ⟨rfl, h⟩ | ⟨rfl, h⟩
          · rw [upd_self hA] at h
            exact skip ⟨j, false, t, hg, ht, .inl hA⟩ h
          · rw [upd_self hA] at h
            exact step (by rw [hg]; exact ⟨t, ht, hA⟩) h
      · rename_i hA
        exact skip ⟨j, want, t, hg, ht, .inr hA⟩ h
      · simp [stuckP] at h

-- two sets that agree where it matters
theorem AS_agree {S S' : Nat → Bool} {t : Nat} : ∀ (es : List Ent) (i : Nat) (A A' : Tmps), A t = A' t → (∀ j e, es[j]? = some e → e.o.dst = some t → S (i + j) = S' (i + j)) → AS S es i A t = AS S' es i A' t
  | [], _, _, _, h, _ => h
  | e :: es, i, A, A', h, hs => by
    refine AS_agree es (i + 1) _ _ ?_ fun j x hj hd => by have := hs (j + 1) x (by simpa using hj) hd; rwa [Nat.add_assoc, Nat.add_comm 1 j]
    by_cases hd : e.o.dst = some t
    · have := hs 0 e rfl hd
      simp only [Nat.add_zero] at this
      rw [this]
      split
      · simp [put', hd, upd_same]
      · exact h
    · have hp : ∀ (B : Tmps), put' B e.o.dst e.d t = B t := fun B => by
        cases hq : e.o.dst with
        | none => rfl
        | some s => simp only [put']; exact upd_ne B e.d fun e' => hd (by rw [hq, e'])
      have h1 : ∀ (b : Bool) (B : Tmps), (if b = true then put' B e.o.dst e.d else B) t = B t := fun b B => by cases b <;> simp [hp]
      rw [h1, h1]; exact h

theorem hsets_not {b : Nat} : ∀ (W : List (Nat × Blk)) (H : Heap), (∀ x ∈ W, x.1 ≠ b) → hsets H W b = H b
  | [], _, _ => rfl
  | (x, k) :: W, H, h => by
    simp only [hsets]
    rw [hsets_not W _ fun y hy => h y (by simp [hy]), hset_ne H k fun e => h (x, k) (by simp) e.symm]

theorem hsets_congr {b : Nat} : ∀ (W : List (Nat × Blk)) (H H' : Heap), H b = H' b → hsets H W b = hsets H' W b
  | [], _, _, h => h
  | (x, k) :: W, H, H', h => by
    simp only [hsets]
    refine hsets_congr W _ _ ?_
    by_cases e : b = x
    · subst e; rw [hset_same, hset_same]
    · rw [hset_ne H k e, hset_ne H' k e]; exact h

theorem hsets_in {b : Nat} : ∀ (W : List (Nat × Blk)) (H H' : Heap), (∃ x ∈ W, x.1 = b) → hsets H W b = hsets H' W b
  | [], _, _, h => by obtain ⟨x, hx, _⟩ := h; simp at hx
  | (x, k) :: W, H, H', h => by
    simp only [hsets]
    by_cases e : b = x
    · subst e; exact hsets_congr W _ _ (by rw [hset_same, hset_same])
    · obtain ⟨y, hy, rfl⟩ := h
      rcases List.mem_cons.1 hy with rfl | hy
      · exact absurd rfl e
      · exact hsets_in W _ _ ⟨y, hy, rfl⟩

theorem happ_not {e : Ent} {b : Nat} (H : Heap) (h : ¬ touch e b) : happ H e b = H b := by
  have h1 : hsets H e.W b = H b := hsets_not _ _ fun x hx e' => h (.inl ⟨x, hx, e'⟩)
  unfold happ
  cases hi : e.ins with
  | none => exact h1
  | some p =>
    obtain ⟨b', q, y⟩ := p
    have hne : b ≠ b' := fun e' => h (.inr ⟨q, y, by rw [hi, e']⟩)
    simp only [hin]
    rw [hins_ne hne]; exact h1
theorem happ_congr {e : Ent} {b : Nat} {H H' : Heap} (h : H b = H' b) : happ H e b = happ H' e b := by
  have h1 : hsets H e.W b = hsets H' e.W b := hsets_congr _ _ _ h
  unfold happ
  cases hi : e.ins with
  | none => exact h1
  | some p =>
    obtain ⟨b', q, y⟩ := p
    simp only [hin]
    by_cases hb : b = b'
    · subst hb
      rw [hins_at, hins_at, h1]
    · rw [hins_ne hb, hins_ne hb]; exact h1
/-- what both touch is a map into which entries of different keys are put. -/
def okPair (e x : Ent) : Prop := ∀ b, touch e b → touch x b → ∃ q1 y1 q2 y2, e.W = [] ∧ x.W = [] ∧ e.ins = some (b, q1, y1) ∧ x.ins = some (b, q2, y2) ∧ keyEq q1 q2 = false ∧ keyEq q1 q1 = true
theorem happ_comm {e x : Ent} (h : okPair e x) (H : Heap) : happ (happ H e) x = happ (happ H x) e := by
  funext b
  by_cases h1 : touch e b
  · by_cases h2 : touch x b
    · obtain ⟨q1, y1, q2, y2, e1, e2, e3, e4, e5, e6⟩ := h b h1 h2
      simp only [happ, e1, e2, e3, e4, hsets, hin, hins]
      cases hH : H b with
      | none => simp only [hH]
      | some k =>
        cases k with
        | map kd f =>
          simp only [hset_same]
          rw [mput_comm f e5 e6]
        | _ => simp only [hH]
    · rw [happ_not _ h2]; exact happ_congr (happ_not _ h2).symm
  · rw [happ_not (happ H x) h1]; exact happ_congr (happ_not _ h1)

theorem HS_agree {S S' : Nat → Bool} {b : Nat} : ∀ (es : List Ent) (i : Nat) (H H' : Heap), H b = H' b → (∀ j e, es[j]? = some e → touch e b → S (i + j) = S' (i + j)) → HS S es i H b = HS S' es i H' b
  | [], _, _, _, h, _ => h
  | e :: es, i, H, H', h, hs => by
    refine HS_agree es (i + 1) _ _ ?_ fun j x hj hd => by have := hs (j + 1) x (by simpa using hj) hd; rwa [Nat.add_assoc, Nat.add_comm 1 j]
    by_cases hd : touch e b
    · have := hs 0 e rfl hd
      simp only [Nat.add_zero] at this
      rw [this]
      split
      · exact happ_congr h
      · exact h
    · have h1 : ∀ (c : Bool) (B : Heap), (if c = true then happ B e else B) b = B b := fun c B => by cases c <;> simp [happ_not B hd]
      rw [h1, h1]; exact h

/-- the same block, or two maps of one kind. -/
def sim (X Y : Option Blk) : Prop := X = Y ∨ ∃ kd f g, X = some (.map kd f) ∧ Y = some (.map kd g)
theorem hins_self {H : Heap} {b : Nat} {q y : Pd} : sim (hins H b q y b) (H b) := by
  rw [hins_at]
  cases hH : H b with
  | none => exact .inl rfl
  | some k => cases k <;> first | exact .inl rfl | exact .inr ⟨_, _, _, rfl, rfl⟩
theorem sim.symm {X Y : Option Blk} (h : sim X Y) : sim Y X := by
  rcases h with h | ⟨kd, f, g, h1, h2⟩
  · exact .inl h.symm
  · exact .inr ⟨kd, g, f, h2, h1⟩
theorem sim.trans {X Y Z : Option Blk} (h : sim X Y) (k : sim Y Z) : sim X Z := by
  rcases h with rfl | ⟨kd, f, g, h1, h2⟩
  · exact k
  · rcases k with rfl | ⟨kd', f', g', h3, h4⟩
    · exact .inr ⟨kd, f, g, h1, h2⟩
    · rw [h2] at h3
      cases h3
      exact .inr ⟨_, f, g', h1, h4⟩
theorem happ_sim {e : Ent} {b : Nat} {H H' : Heap} (h : sim (H b) (H' b)) : sim (happ H e b) (happ H' e b) := by
  have h1 : sim (hsets H e.W b) (hsets H' e.W b) := by
    by_cases hd : ∃ x ∈ e.W, x.1 = b
    · exact .inl (hsets_in _ _ _ hd)
    · rw [hsets_not _ _ fun x hx e' => hd ⟨x, hx, e'⟩, hsets_not _ _ fun x hx e' => hd ⟨x, hx, e'⟩]; exact h
  unfold happ
  cases hi : e.ins with
  | none => exact h1
  | some p =>
    obtain ⟨b', q, y⟩ := p
    simp only [hin]
    by_cases hb : b = b'
    · subst hb
      exact hins_self.trans (h1.trans hins_self.symm)
    · rw [hins_ne hb, hins_ne hb]; exact h1
theorem HS_sim {S S' : Nat → Bool} {b : Nat} : ∀ (es : List Ent) (i : Nat) (H H' : Heap), sim (H b) (H' b) → (∀ j e, es[j]? = some e → touch e b → S (i + j) = S' (i + j) ∨ (e.W = [] ∧ ∃ q y, e.ins = some (b, q, y))) → sim (HS S es i H b) (HS S' es i H' b)
  | [], _, _, _, h, _ => h
  | e :: es, i, H, H', h, hs => by
    refine HS_sim es (i + 1) _ _ ?_ fun j x hj hd => by have := hs (j + 1) x (by simpa using hj) hd; rwa [Nat.add_assoc, Nat.add_comm 1 j]
    by_cases hd : touch e b
    · rcases hs 0 e rfl hd with this | ⟨hW, q, y, hi⟩
      · simp only [Nat.add_zero] at this
        rw [this]
        split
        · exact happ_sim h
        · exact h
      · have h1 : ∀ (X : Heap), sim (happ X e b) (X b) := fun X => by
          simp only [happ, hW, hi, hsets, hin]; exact hins_self
        have h2 : ∀ (c : Bool) (X : Heap), sim ((if c = true then happ X e else X) b) (X b) := fun c X => by
          cases c
          · exact .inl rfl
          · exact h1 X
        exact (h2 _ _).trans (h.trans (h2 _ _).symm)
    · have h1 : ∀ (c : Bool) (B : Heap), (if c = true then happ B e else B) b = B b := fun c B => by cases c <;> simp [happ_not B hd]
      rw [h1, h1]; exact h

-- one more
def plus (S : Nat → Bool) (k : Nat) : Nat → Bool := fun j => S j || j == k

theorem AS_push {S : Nat → Bool} {dst : Option Nat} {d : D} : ∀ (es : List Ent) (i : Nat) (A : Tmps), (∀ j e, es[j]? = some e → S (i + j) = true → ∀ t, dst = some t → e.o.dst ≠ some t) →
    AS S es i (put' A dst d) = put' (AS S es i A) dst d
  | [], _, _, _ => rfl
  | e :: es, i, A, h => by
    simp only [AS]
    rw [← AS_push es (i + 1) _ fun j x hj hs t ht => h (j + 1) x (by simpa using hj) (by rwa [Nat.add_assoc, Nat.add_comm 1 j] at hs) t ht]
    congr 1
    by_cases hs : S i = true
    · rw [if_pos hs, if_pos hs]
      cases hd : dst with
      | none => rfl
      | some t =>
        have hne := h 0 e rfl (by simpa using hs) t hd
        cases he : e.o.dst with
        | none => rfl
        | some s =>
          have hst : s ≠ t := fun e' => hne (by rw [he, e'])
          funext x
          simp only [put']
          by_cases h1 : x = s
          · subst h1; rw [upd_same, upd_ne _ _ hst, upd_same]
          · rw [upd_ne _ _ h1]
            by_cases h2 : x = t
            · subst h2; rw [upd_same, upd_same]
            · rw [upd_ne _ _ h2, upd_ne _ _ h2, upd_ne _ _ h1]
    · rw [if_neg hs, if_neg hs]

theorem AS_plus {S : Nat → Bool} {k : Nat} {e : Ent} : ∀ (es : List Ent) (i : Nat) (A : Tmps), i ≤ k → es[k - i]? = some e → S k = false →
    (∀ j x, es[j]? = some x → k < i + j → S (i + j) = true → ∀ t, e.o.dst = some t → x.o.dst ≠ some t) → AS (plus S k) es i A = put' (AS S es i A) e.o.dst e.d
  | [], i, A, _, h, _, _ => by simp at h
  | x :: es, i, A, hik, h, hk, hl => by
    have hpl : ∀ j, j ≠ k → plus S k j = S j := fun j hj => by simp [plus, hj]
    by_cases hi : i = k
    · subst hi
      simp at h
      subst h
      simp only [AS]
      have e1 : plus S i i = true := by simp [plus]
      rw [e1, hk]
      simp only [if_true, Bool.false_eq_true, if_false]
      have e2 : ∀ (B : Tmps), AS (plus S i) es (i + 1) B = AS S es (i + 1) B := fun B => by
        funext t
        exact AS_agree es (i + 1) B B rfl fun j y _ _ => hpl _ (by omega)
      rw [e2]
      exact AS_push es (i + 1) A fun j y hj hs t ht => hl (j + 1) y (by simpa using hj) (by omega) (by rwa [Nat.add_comm j 1, ← Nat.add_assoc]) t ht
    · simp only [AS]
      rw [hpl i hi]
      refine AS_plus es (i + 1) _ (by omega) ?_ hk fun j y hj hlt hs t ht => hl (j + 1) y (by simpa using hj) (by omega) (by rwa [Nat.add_comm j 1, ← Nat.add_assoc]) t ht
      rw [← h, show k - i = (k - (i + 1)) + 1 by omega]; simp

theorem HS_push {S : Nat → Bool} {x : Ent} : ∀ (es : List Ent) (i : Nat) (H : Heap), (∀ j e, es[j]? = some e → S (i + j) = true → okPair x e) →
    HS S es i (happ H x) = happ (HS S es i H) x
  | [], _, _, _ => rfl
  | e :: es, i, H, h => by
    simp only [HS]
    rw [← HS_push es (i + 1) _ fun j x hj hs => h (j + 1) x (by simpa using hj) (by rwa [Nat.add_assoc, Nat.add_comm 1 j] at hs)]
    congr 1
    by_cases hs : S i = true
    · rw [if_pos hs, if_pos hs]
      exact happ_comm (h 0 e rfl (by simpa using hs)) H
    · rw [if_neg hs, if_neg hs]

theorem HS_plus {S : Nat → Bool} {k : Nat} {e : Ent} : ∀ (es : List Ent) (i : Nat) (H : Heap), i ≤ k → es[k - i]? = some e → S k = false →
    (∀ j x, es[j]? = some x → k < i + j → S (i + j) = true → okPair e x) → HS (plus S k) es i H = happ (HS S es i H) e
  | [], i, H, _, h, _, _ => by simp at h
  | x :: es, i, H, hik, h, hk, hl => by
    have hpl : ∀ j, j ≠ k → plus S k j = S j := fun j hj => by simp [plus, hj]
    by_cases hi : i = k
    · subst hi
      simp at h
      subst h
      simp only [HS]
      have e1 : plus S i i = true := by simp [plus]
      rw [e1, hk]
      simp only [if_true, Bool.false_eq_true, if_false]
      have e2 : ∀ (B : Heap), HS (plus S i) es (i + 1) B = HS S es (i + 1) B := fun B => by
        funext b
        exact HS_agree es (i + 1) B B rfl fun j y _ _ => hpl _ (by omega)
      rw [e2]
      exact HS_push es (i + 1) H fun j y hj hs => hl (j + 1) y (by simpa using hj) (by omega) (by rwa [Nat.add_comm j 1, ← Nat.add_assoc])
    · simp only [HS]
      rw [hpl i hi]
      refine HS_plus es (i + 1) _ (by omega) ?_ hk fun j y hj hlt hs => hl (j + 1) y (by simpa using hj) (by omega) (by rwa [Nat.add_comm j 1, ← Nat.add_assoc])
      rw [← h, show k - i = (k - (i + 1)) + 1 by omega]; simp

/-- the run's states are those of the sets of what stands before. -/
theorem Runs.at {P : Program} {ops : List Oper} : ∀ {es : List Ent} {A A' : Tmps} {H H' : Heap}, Runs P ops es A H A' H' → ∀ (i k : Nat) (e : Ent), es[k]? = some e →
    e.A = AS (fun j => decide (j < i + k)) es i A ∧ e.H = HS (fun j => decide (j < i + k)) es i H ∧ (∀ b, touch e b → b ∈ e.fp.w) ∧
    ((e.ex = true ∧ (match e.o.guard with | none => True | some (j, want) => ∃ t, guardTmp ops j = some t ∧ e.A t = .p (.bool want)) ∧ Does P e) ∨
      (e.ex = false ∧ e.d = .tup [] ∧ e.W = [] ∧ e.ins = none ∧ e.hi = e.lo ∧ ∃ j want t, e.o.guard = some (j, want) ∧ guardTmp ops j = some t ∧ (e.A t = .p (.bool (!want)) ∨ e.A t = .tup [])))
  | [], _, _, _, _, _, i, k, e, h => by simp at h
  | x :: es, A, A', H, H', hr, i, 0, e, h => by
    simp at h
    subst h
    obtain ⟨h1, h2, h3, h4, _⟩ := hr
    have none_ : ∀ (l : List Ent) (i' : Nat) (B : Tmps), i ≤ i' → AS (fun j => decide (j < i)) l i' B = B := by
      intro l
      induction l with
      | nil => intros; rfl
      | cons y l ih =>
        intro i' B hi
        simp only [AS]
        rw [if_neg (by simp; omega)]
        exact ih (i' + 1) B (by omega)
    have noneH : ∀ (l : List Ent) (i' : Nat) (B : Heap), i ≤ i' → HS (fun j => decide (j < i)) l i' B = B := by
      intro l
      induction l with
      | nil => intros; rfl
      | cons y l ih =>
        intro i' B hi
        simp only [HS]
        rw [if_neg (by simp; omega)]
        exact ih (i' + 1) B (by omega)
    rw [Nat.add_zero, none_ _ i A (Nat.le_refl _), noneH _ i H (Nat.le_refl _)]
    subst h1
    subst h2
    exact ⟨rfl, rfl, h3, h4⟩
  | x :: es, A, A', H, H', hr, i, k + 1, e, h => by
    obtain ⟨_, _, _, _, h5⟩ := hr
    have := Runs.at h5 (i + 1) k e (by simpa using h)
    simp only [AS, HS]
    rw [if_pos (by simp), if_pos (by simp)]
    rw [show i + 1 + k = i + (k + 1) by omega] at this
    exact this

theorem Runs.fin {P : Program} {ops : List Oper} : ∀ {es : List Ent} {A A' : Tmps} {H H' : Heap}, Runs P ops es A H A' H' → ∀ (i : Nat) (S : Nat → Bool), (∀ j, j < es.length → S (i + j) = true) →
    A' = AS S es i A ∧ H' = HS S es i H
  | [], _, _, _, _, h, _, _, _ => h
  | x :: es, A, A', H, H', hr, i, S, hs => by
    obtain ⟨_, _, _, _, h5⟩ := hr
    have h0 := hs 0 (by simp)
    simp only [Nat.add_zero] at h0
    have := Runs.fin h5 (i + 1) S fun j hj => by have := hs (j + 1) (by simp; omega); rwa [Nat.add_assoc, Nat.add_comm 1 j]
    simp only [AS, HS, h0, if_true]
    exact this

end Qa
namespace Qa
open Go

theorem countP_lt {p p' : Nat → Bool} (hle : ∀ j, p' j = true → p j = true) {k : Nat} (h1 : p k = true) (h2 : p' k = false) : ∀ {l : List Nat}, k ∈ l → l.countP p' < l.countP p
  | [], h => by simp at h
  | x :: l, h => by
    have hmono : l.countP p' ≤ l.countP p := List.countP_mono_left fun j _ hj => hle j hj
    by_cases hx : x = k
    · subst hx
      rw [List.countP_cons_of_pos h1, List.countP_cons_of_neg (by simp [h2])]
      omega
    · have hkl : k ∈ l := by
        rcases List.mem_cons.1 h with rfl | h
        · exact absurd rfl hx
        · exact h
      have ih := countP_lt hle h1 h2 hkl
      by_cases hp : p' x = true
      · rw [List.countP_cons_of_pos hp, List.countP_cons_of_pos (hle x hp)]; omega
      · rw [List.countP_cons_of_neg hp]
        have := List.countP_cons (p := p) (a := x) (l := l)
        rw [this]; omega

/-- the masks name only what must have been done. -/
theorem masks_spec {ops : List Oper} {S : Nat → Bool} (hd : ∀ (k : Nat) (o : Oper), ops[k]? = some o → S k = true → ∀ e ∈ o.after.toList, Region.binds .any e = true → S e.on = true) :
    ∀ (os : List Oper) (acc : List Nat), (∀ (j : Nat) (o : Oper), os[j]? = some o → ops[acc.length + j]? = some o) →
      (∀ (k m : Nat), acc[k]? = some m → (∀ (o : Oper), ops[k]? = some o → ∀ e ∈ o.after.toList, Region.binds .any e = true → S e.on = true) → ∀ i, m.testBit i = true → S i = true) →
      ∀ (k m : Nat), (masks os acc)[k]? = some m → (∀ (o : Oper), ops[k]? = some o → ∀ e ∈ o.after.toList, Region.binds .any e = true → S e.on = true) → ∀ i, m.testBit i = true → S i = true
  | [], acc, _, hacc => hacc
  | o :: os, acc, hos, hacc => by
    have h0 := hos 0 o rfl
    simp only [Nat.add_zero] at h0
    refine masks_spec hd os _ (fun j x hj => by have := hos (j + 1) x (by simpa using hj); simpa [Nat.add_assoc, Nat.add_comm 1 j] using this) fun k m hk hall i hi => ?_
    by_cases hlt : k < acc.length
    · rw [List.getElem?_append_left hlt] at hk
      exact hacc k m hk hall i hi
    · rw [List.getElem?_append_right (Nat.le_of_not_lt hlt)] at hk
      have hk0 : k = acc.length := by
        have := (List.getElem?_eq_some_iff.1 hk).1
        simp at this; omega
      subst hk0
      rw [Nat.sub_self, List.getElem?_cons_zero] at hk
      cases hk
      have hall := hall o h0
      -- the fold
      have key : ∀ (l : List Edge) (m : Nat), (∀ e ∈ l, Region.binds .any e = true → S e.on = true) → (m.testBit i = true → S i = true) →
          (l.foldl (fun m e => match Region.binds .any e with | true => m ||| 1 <<< e.on ||| acc.getD e.on 0 | false => m) m).testBit i = true → S i = true := by
        intro l
        induction l with
        | nil => intro m _ hm h; exact hm h
        | cons e l ih =>
          intro m hl hm h
          simp only [List.foldl_cons] at h
          refine ih _ (fun e he => hl e (by simp [he])) ?_ h
          intro hb
          split at hb
          · rename_i hbind
            have hon := hl e (by simp) hbind
            simp only [Nat.testBit_or, Bool.or_eq_true] at hb
            rcases hb with (hb | hb) | hb
            · exact hm hb
            · rw [Nat.testBit_shiftLeft] at hb
              simp only [Bool.and_eq_true, decide_eq_true_eq, ge_iff_le] at hb
              have : i - e.on = 0 := by
                have h1 := hb.2
                cases hq : i - e.on with
                | zero => rfl
                | succ n => rw [hq] at h1; simp [Nat.testBit_succ] at h1
              have : i = e.on := by omega
              rw [this]; exact hon
            · by_cases hlt2 : e.on < acc.length
              · have hg : acc[e.on]? = some (acc.getD e.on 0) := by rw [List.getD_eq_getElem?_getD, List.getElem?_eq_getElem hlt2]; rfl
                exact hacc e.on _ hg (fun o' ho' e' he' hb' => hd e.on o' ho' hon e' he' hb') i hb
              · rw [List.getD_eq_getElem?_getD, List.getElem?_eq_none (Nat.le_of_not_lt hlt2)] at hb
                simp at hb
          · exact hm hb
      exact key _ 0 (fun e he hb => hall e he hb) (by simp) hi


theorem AS_ext {S S' : Nat → Bool} {es : List Ent} {i : Nat} {A : Tmps} (h : ∀ j, i ≤ j → S j = S' j) : AS S es i A = AS S' es i A := by
  funext t; exact AS_agree es i A A rfl fun j _ _ _ => h _ (by omega)
theorem HS_ext {S S' : Nat → Bool} {es : List Ent} {i : Nat} {H : Heap} (h : ∀ j, i ≤ j → S j = S' j) : HS S es i H = HS S' es i H := by
  funext b; exact HS_agree es i H H rfl fun j _ _ _ => h _ (by omega)

theorem looks_tmp {ops : List Oper} {o : Oper} {t : Nat} (h : Operand.tmp t ∈ o.op.operands) : t ∈ looks ops o := by
  unfold looks
  refine List.mem_append_left _ (List.mem_filterMap.2 ⟨.tmp t, by simpa using h, rfl⟩)

theorem disj_hit {a b : List Nat} {x : Nat} (ha : x ∈ a) (hb : x ∈ b) : disj a b = false := by
  cases h : disj a b with
  | false => rfl
  | true =>
    exfalso
    have := List.all_eq_true.1 h x ha
    simp [hb] at this

theorem plus_listed {S : Nat → Bool} {listed : Array Bool} {k : Nat} (hk : k < listed.size) (hS : ∀ j, S j = listed.getD j false) :
    ∀ j, plus S k j = (listed.setIfInBounds k true).getD j false := by
  intro j
  by_cases hj : k = j
  · subst hj
    have e1 : plus S k k = true := by unfold plus; rw [beq_self_eq_true, Bool.or_true]
    rw [e1, Array.getD_eq_getD_getElem?, Array.getElem?_setIfInBounds_self_of_lt hk]; rfl
  · rw [getD_set_ne false hj, ← hS]
    unfold plus
    have : (j == k) = false := beq_eq_false_iff_ne.2 (Ne.symm hj)
    rw [this, Bool.or_false]

theorem exempt_spec {o p : Oper} (h : exempt o p = true) : ∃ (t : TypeId) (m v : Operand) (u : Value) (q : Pd) (t' : TypeId) (m' v' : Operand) (u' : Value) (q' : Pd),
    o.op = .insert t m (.const u) v ∧ p.op = .insert t' m' (.const u') v' ∧ ofVal u = .p q ∧ ofVal u' = .p q' ∧ keyEq q q = true ∧ keyEq q q' = false := by
  unfold exempt at h
  split at h
  case h_2 => cases h
  rename_i t m u v ho
  split at h
  case h_2 => cases h
  rename_i t' m' u' v' hp
  split at h
  case h_2 => cases h
  rename_i q hu
  split at h
  case h_2 => cases h
  rename_i q' hu'
  simp only [Bool.and_eq_true, Bool.not_eq_true'] at h
  exact ⟨t, m, v, u, q, t', m', v', u', q', ho, hp, hu, hu', h.1.1.1, h.1.2⟩

set_option maxHeartbeats 1000000 in
theorem draw_sound {P : Program} {T : Ty} (hT : TyOk P T) (hm : P.follows .mixedOrders = true) {N n0 : Nat} {d0 F : Nat → Prop} {c0 : Cx} {w0 : World} {id : Nat} {ops : Array Oper} {A : Tmps} {H : Heap} {nx : Nat}
    {Q : Exit → Act → World → Prop} {K : Tmps → Heap → Nat → Prop} (h : arunD P T ops.toList ops.toList A H nx [] fun fps A' H' nx' => drawOk ops.toList fps = true ∧ K A' H' nx') (hok : opsOk N ops.toList = true) {c : Cx} {a : Act} {w : World}
    (hr : Rel N n0 d0 A H (below nx) c F a w) (hl : Later n0 d0 F c0 w0 c w)
    (hK : ∀ A' H' nx' c' a' w', K A' H' nx' → Rel N n0 d0 A' H' (below nx') c' F a' w' → Later n0 d0 F c0 w0 c' w' → Q .normal a' w') : (Code.region id ops true).wp P Q a w := by
  obtain ⟨es, A', H', nx', hes, hrun, hch, hdok, hKf⟩ := arunD_runs hT _ _ _ _ _ _ h
  simp only [List.nil_append] at hdok
  have hn : es.length = ops.size := by rw [← Array.length_toList, ← hes]; simp
  have hop : ∀ (k : Nat) (e : Ent), es[k]? = some e → ops[k]? = some e.o := fun k e he => by
    have : ops.toList[k]? = some e.o := by rw [← hes]; simp [he]
    simpa using this
  have hent : ∀ (k : Nat) (o : Oper), ops[k]? = some o → ∃ e, es[k]? = some e ∧ e.o = o := fun k o ho => by
    have hk : k < es.length := by rw [hn]; exact (Array.getElem?_eq_some_iff.1 ho).1
    refine ⟨es[k], List.getElem?_eq_getElem hk, ?_⟩
    have := hop k es[k] (List.getElem?_eq_getElem hk)
    rw [ho] at this; cases this; rfl
  simp only [drawOk, Bool.and_eq_true, List.all_eq_true, List.mem_range] at hdok
  obtain ⟨hback, hpair⟩ := hdok
  -- a clash has its order
  have hord : ∀ (S : Nat → Bool), (∀ (k : Nat) (o : Oper), ops.toList[k]? = some o → S k = true → ∀ e ∈ o.after.toList, Region.binds .any e = true → S e.on = true) →
      ∀ (i k : Nat) (f g : Ent), i < k → es[i]? = some f → es[k]? = some g → clash ops.toList f.o g.o f.fp g.fp = true →
      (∀ e ∈ g.o.after.toList, Region.binds .any e = true → S e.on = true) → S i = true := by
    intro S hS i k f g hik hf hg hcl hall
    have hk : k < ops.toList.length := by have := (List.getElem?_eq_some_iff.1 hg).1; simp; omega
    have := hpair k hk i hik
    have e1 : ops.toList[i]? = some f.o := by simpa using hop i f hf
    have e2 : ops.toList[k]? = some g.o := by simpa using hop k g hg
    have e3 : (es.map (·.fp))[i]? = some f.fp := by simp [hf]
    have e4 : (es.map (·.fp))[k]? = some g.fp := by simp [hg]
    simp only [e1, e2, e3, e4, hcl, Bool.not_true, Bool.false_or] at this
    have hms : ∀ m, (masks ops.toList [])[k]? = some m → m.testBit i = true → S i = true := fun m hm hi =>
      masks_spec hS ops.toList [] (by simp) (by simp) k m hm (fun o ho => by rw [e2] at ho; cases ho; exact hall) i hi
    cases hm : (masks ops.toList [])[k]? with
    | none => rw [List.getD_eq_getElem?_getD, hm] at this; simp at this
    | some m => rw [List.getD_eq_getElem?_getD, hm] at this; exact hms m hm this
  have hclash_sym : ∀ (o p : Oper) (f g : Fp), clash ops.toList o p f g = true → clash ops.toList o p f g = true := fun _ _ _ _ h => h
  refine wp_region_any hm ?_
  have main : ∀ (fuel : Nat) (listed : Array Bool) (S : Nat → Bool), listed.size = ops.size → (∀ j, S j = listed.getD j false) →
      (∀ (k : Nat) (o : Oper), ops.toList[k]? = some o → S k = true → ∀ e ∈ o.after.toList, Region.binds .any e = true → S e.on = true) →
      (List.range ops.size).countP (fun j => !S j) ≤ fuel → ∀ (c' : Cx) (a' : Act) (w' : World), Rel N n0 d0 (AS S es 0 A) (HS S es 0 H) (VS S es 0 (below nx)) c' F a' w' → Later n0 d0 F c0 w0 c' w' →
      wpAny P .any ops Q fuel listed a' w' := by
    intro fuel
    induction fuel with
    | zero =>
      intro listed S hsz hS hdown hcnt c' a' w' hr' hl'
      have hall : ∀ j, j < ops.size → S j = true := fun j hj => by
        cases hs : S j with
        | true => rfl
        | false =>
          have : 0 < (List.range ops.size).countP (fun j => !S j) := List.countP_pos_iff.2 ⟨j, by simp [hj], by simp [hs]⟩
          omega
      obtain ⟨rfl, rfl⟩ := Runs.fin hrun 0 S fun j hj => by rw [Nat.zero_add]; exact hall j (by omega)
      rw [VS_fin hch 0 S fun j hj => by rw [Nat.zero_add]; exact hall j (by omega)] at hr'
      refine ⟨?_, hK _ _ _ c' a' w' hKf hr' hl'⟩
      rw [List.eq_nil_iff_forall_not_mem]
      intro j hj
      obtain ⟨h1, o, ho, _⟩ := mem_ready.1 hj
      have hlt := (Array.getElem?_eq_some_iff.1 ho).1
      have := hall j hlt
      rw [hS j, Array.getD_eq_getD_getElem?] at this
      rw [Array.getD_eq_getD_getElem?] at h1
      cases hq : listed[j]? with
      | none => rw [hq] at this; simp at this
      | some b => rw [hq] at this h1; simp at this h1; rw [this] at h1; cases h1
    | succ fuel ih =>
      intro listed S hsz hS hdown hcnt c' a' w' hr' hl'
      refine ⟨fun hnil => ?_, fun k hk => ?_⟩
      · -- nothing is ready: all are done
        have hall : ∀ j, j < ops.size → S j = true := by
          intro j
          induction j using Nat.strongRecOn with
          | _ j ihj =>
            intro hj
            cases hs : S j with
            | true => rfl
            | false =>
              exfalso
              have hoj : ops[j]? = some ops[j] := Array.getElem?_eq_getElem hj
              have hmem : j ∈ Region.ready .any ops listed := mem_ready.2 ⟨by
                have := hS j
                rw [hs, Array.getD_eq_getD_getElem?] at this
                rw [Array.getD_eq_getD_getElem?]
                have hlt : j < listed.size := by omega
                rw [Array.getElem?_eq_getElem hlt] at this ⊢
                exact this.symm, ops[j], hoj, fun e he hb => by
                have hbk := hback j (by simpa using hj)
                have e1 : ops.toList[j]? = some ops[j] := by simp
                simp only [e1, List.all_eq_true] at hbk
                have := hbk e (by simpa using he)
                simp only [hb, Bool.not_true, Bool.false_or] at this
                have hlt : e.on < j := by simpa using this
                rw [← hS]; exact ihj e.on hlt (by omega)⟩
              rw [hnil] at hmem
              cases hmem
        obtain ⟨rfl, rfl⟩ := Runs.fin hrun 0 S fun j hj => by rw [Nat.zero_add]; exact hall j (by omega)
        rw [VS_fin hch 0 S fun j hj => by rw [Nat.zero_add]; exact hall j (by omega)] at hr'
        exact hK _ _ _ c' a' w' hKf hr' hl'
      · obtain ⟨h1, o, ho, hafter⟩ := mem_ready.1 hk
        have hklt := (Array.getElem?_eq_some_iff.1 ho).1
        obtain ⟨e, he, heo⟩ := hent k o ho
        have hSk : S k = false := by
          rw [hS k, Array.getD_eq_getD_getElem?]
          rw [Array.getD_eq_getD_getElem?] at h1
          have hlt : k < listed.size := by omega
          rw [Array.getElem?_eq_getElem hlt] at h1 ⊢
          exact h1
        have hafter' : ∀ x ∈ e.o.after.toList, Region.binds .any x = true → S x.on = true := fun x hx hb => by
          rw [hS]; exact hafter x (by rw [heo] at hx; simpa using hx) hb
        obtain ⟨hA, hH, hW, hcase⟩ := Runs.at hrun 0 k e he
        simp only [Nat.zero_add] at hA hH
        -- what stands before k in the text and clashes has been done; what stands behind and clashes has not
        have before_ : ∀ (j : Nat) (x : Ent), es[j]? = some x → clash ops.toList x.o e.o x.fp e.fp = true → j < k → S j = true := fun j x hx hcl hjk =>
          hord S hdown j k x e hjk hx he hcl hafter'
        have behind_ : ∀ (j : Nat) (x : Ent), es[j]? = some x → clash ops.toList e.o x.o e.fp x.fp = true → k < j → S j = false := fun j x hx hcl hkj => by
          cases hs : S j with
          | false => rfl
          | true =>
            have := hord S hdown k j e x hkj he hx hcl fun y hy hb => hdown j x.o (by simpa using hop j x hx) hs y hy hb
            rw [hSk] at this; cases this
        have hAat : ∀ t ∈ looks ops.toList e.o, AS S es 0 A t = e.A t := fun t ht => by
          rw [hA]
          refine AS_agree es 0 A A rfl fun j x hx hd => ?_
          simp only [Nat.zero_add]
          rcases Nat.lt_trichotomy j k with hjk | rfl | hjk
          · rw [before_ j x hx (by simp [clash, hd, ht]) hjk]; simp [hjk]
          · rw [hSk]; simp
          · rw [behind_ j x hx (by simp [clash, hd, ht]) hjk]; simp; omega
        have tw : ∀ (j : Nat) (x : Ent) (b : Nat), es[j]? = some x → touch x b → b ∈ x.fp.w := fun j x b hx ht => (Runs.at hrun 0 j x hx).2.2.1 b ht
        have insOf : ∀ (j : Nat) (x : Ent) (b : Nat) (t : TypeId) (m v : Operand) (u : Value) (q : Pd), es[j]? = some x → x.o.op = .insert t m (.const u) v → ofVal u = .p q → touch x b → x.W = [] ∧ ∃ y, x.ins = some (b, q, y) := by
          intro j x b t m v u q hx hop hu ht
          rcases (Runs.at hrun 0 j x hx).2.2.2 with ⟨_, _, hdo⟩ | ⟨_, _, hW0, hi0, _⟩
          · rcases hdo with ⟨_, hno, _⟩ | ⟨b', q', y', kd, t', m', k', v', h1, h2, _, _, h5, h6, _⟩
            · exact absurd hop (hno _ _ _ _)
            · rw [hop] at h5
              cases h5
              have hq : q' = q := by
                have h6 : ofVal u = .p q' := h6
                rw [hu] at h6; cases h6; rfl
              subst hq
              rcases ht with ⟨z, hz, _⟩ | ⟨q2, y2, h3⟩
              · rw [h2] at hz; simp at hz
              · rw [h1] at h3
                cases h3
                exact ⟨h2, _, h1⟩
          · rcases ht with ⟨z, hz, _⟩ | ⟨q2, y2, h3⟩
            · rw [hW0] at hz; simp at hz
            · rw [hi0] at h3; cases h3
        have hHat : (∀ t m k v, e.o.op ≠ .insert t m k v) → ∀ b ∈ e.fp.r ++ e.fp.w, HS S es 0 H b = e.H b := fun hno b hb => by
          have hno1 : ∀ x : Ent, exempt x.o e.o = false := fun x => by
            cases h : exempt x.o e.o with
            | false => rfl
            | true => obtain ⟨_, _, _, _, _, t, m, v, u, _, _, h1, _⟩ := exempt_spec h; exact absurd h1 (hno _ _ _ _)
          have hno2 : ∀ x : Ent, exempt e.o x.o = false := fun x => by
            cases h : exempt e.o x.o with
            | false => rfl
            | true => obtain ⟨t, m, v, u, _, _, _, _, _, _, h1, _⟩ := exempt_spec h; exact absurd h1 (hno _ _ _ _)
          rw [hH]
          refine HS_agree es 0 H H rfl fun j x hx hd => ?_
          simp only [Nat.zero_add]
          have hxw : b ∈ x.fp.w := tw j x b hx hd
          rcases Nat.lt_trichotomy j k with hjk | rfl | hjk
          · have hcl : disj x.fp.w (e.fp.r ++ e.fp.w) = false := by
              exact disj_hit hxw hb
            rw [before_ j x hx (by simp [clash, hcl, hno1]) hjk]; simp [hjk]
          · rw [hSk]; simp
          · have hcl : disj e.fp.w (x.fp.r ++ x.fp.w) = false ∨ disj x.fp.w e.fp.r = false := by
              rcases List.mem_append.1 hb with hb | hb
              · right
                exact disj_hit hxw hb
              · left
                exact disj_hit hb (List.mem_append_right _ hxw)
            rw [behind_ j x hx (by rcases hcl with hcl | hcl <;> simp [clash, hcl, hno2]) hjk]; simp; omega
        have hSim : ∀ b ∈ e.fp.w, sim (HS S es 0 H b) (e.H b) := fun b hb => by
          rw [hH]
          refine HS_sim es 0 H H (.inl rfl) fun j x hx hd => ?_
          simp only [Nat.zero_add]
          have hxw : b ∈ x.fp.w := tw j x b hx hd
          have fromEx : (∃ p, exempt x.o p = true ∨ exempt p x.o = true) → x.W = [] ∧ ∃ q y, x.ins = some (b, q, y) := by
            rintro ⟨p, h | h⟩
            · obtain ⟨t, m, v, u, q, _, _, _, _, _, h1, _, h2, _⟩ := exempt_spec h
              obtain ⟨e1, y, e2⟩ := insOf j x b t m v u q hx h1 h2 hd
              exact ⟨e1, q, y, e2⟩
            · obtain ⟨_, _, _, _, _, t, m, v, u, q, _, h1, _, h2, _⟩ := exempt_spec h
              obtain ⟨e1, y, e2⟩ := insOf j x b t m v u q hx h1 h2 hd
              exact ⟨e1, q, y, e2⟩
          rcases Nat.lt_trichotomy j k with hjk | rfl | hjk
          · cases hex : exempt x.o e.o with
            | true => exact .inr (fromEx ⟨_, .inl hex⟩)
            | false =>
              left
              have hcl : disj x.fp.w (e.fp.r ++ e.fp.w) = false := by
                exact disj_hit hxw (List.mem_append_right _ hb)
              rw [before_ j x hx (by simp [clash, hcl, hex]) hjk]; simp [hjk]
          · left; rw [hSk]; simp
          · cases hex : exempt e.o x.o with
            | true => exact .inr (fromEx ⟨_, .inr hex⟩)
            | false =>
              left
              have hcl : disj e.fp.w (x.fp.r ++ x.fp.w) = false := by
                exact disj_hit hb (List.mem_append_right _ hxw)
              rw [behind_ j x hx (by simp [clash, hcl, hex]) hjk]; simp; omega
        have hASk : AS (plus S k) es 0 A = put' (AS S es 0 A) e.o.dst e.d := AS_plus es 0 A (Nat.zero_le _) (by simpa using he) hSk fun j x hx hkj hs t ht hxt => by
          simp only [Nat.zero_add] at hkj hs
          have := behind_ j x hx (by simp [clash, ht, hxt]) hkj
          rw [hs] at this; cases this
        have hHSk : HS (plus S k) es 0 H = happ (HS S es 0 H) e := HS_plus es 0 H (Nat.zero_le _) (by simpa using he) hSk fun j x hx hkj hs b hbe hbx => by
          simp only [Nat.zero_add] at hkj hs
          cases hex : exempt e.o x.o with
          | false =>
            exfalso
            have hcl : disj e.fp.w (x.fp.r ++ x.fp.w) = false := by
              exact disj_hit (hW b hbe) (List.mem_append_right _ (tw j x b hx hbx))
            have := behind_ j x hx (by simp [clash, hcl, hex]) hkj
            rw [hs] at this; cases this
          | true =>
            obtain ⟨t, m, v, u, q, t', m', v', u', q', h1, h2, h3, h4, h5, h6⟩ := exempt_spec hex
            obtain ⟨e1, y, e2⟩ := insOf k e b t m v u q he h1 h3 hbe
            obtain ⟨e3, y', e4⟩ := insOf j x b t' m' v' u' q' hx h2 h4 hbx
            exact ⟨q, y, q', y', e1, e3, e2, e4, h6, h5⟩
        have hkN : ∀ t, e.o.dst = some t → t < N := by
          have : ∀ (l : List Oper), opsOk N l = true → ∀ o ∈ l, ∀ t, o.dst = some t → t < N := by
            intro l
            induction l with
            | nil => intro _ o ho; simp at ho
            | cons x l ihl =>
              intro hl o ho t ht
              obtain ⟨h1, h2⟩ := opsOk_cons hl
              rcases List.mem_cons.1 ho with rfl | ho
              · exact h1 t ht
              · exact ihl h2 o ho t ht
          exact this ops.toList hok e.o (by rw [heo]; exact List.mem_of_getElem? (by simpa using ho))
        have hVSk : VS (plus S k) es 0 (below nx) = iups (VS S es 0 (below nx)) e.lo e.hi := by
          funext b
          have key : VS (plus S k) es 0 (below nx) b = true ↔ iups (VS S es 0 (below nx)) e.lo e.hi b = true := by
            rw [VS_iff, iups_iff, VS_iff]
            simp only [Nat.zero_add, plus, Bool.or_eq_true, beq_iff_eq]
            constructor
            · rintro (g0 | ⟨j, x, g1, g2 | g2, g3⟩)
              · exact .inr (.inl g0)
              · exact .inr (.inr ⟨j, x, g1, g2, g3⟩)
              · rw [g2, he] at g1
                cases g1
                exact .inl g3
            · rintro (g0 | g0 | ⟨j, x, g1, g2, g3⟩)
              · exact .inr ⟨k, e, he, .inr rfl, g0⟩
              · exact .inl g0
              · exact .inr ⟨j, x, g1, .inl g2, g3⟩
          cases hb1 : VS (plus S k) es 0 (below nx) b with
          | true => exact (key.1 hb1).symm
          | false =>
            cases hb2 : iups (VS S es 0 (below nx)) e.lo e.hi b with
            | false => rfl
            | true => rw [key.2 hb2] at hb1; cases hb1
        have hfresh : ∀ b, e.lo ≤ b → b < e.hi → VS S es 0 (below nx) b = false := fun b hb1 hb2 => by
          cases hb : VS S es 0 (below nx) b with
          | false => rfl
          | true =>
            exfalso
            rcases (VS_iff es 0 (below nx)).1 hb with h | ⟨j, x, h1, h2, h3, h4⟩
            · rw [below_iff] at h
              have := (hch.at k e he).1
              omega
            · rw [Nat.zero_add] at h2
              rcases Nat.lt_trichotomy j k with hjk | hjk | hjk
              · have := hch.ord j k x e hjk h1 he; omega
              · subst hjk; rw [hSk] at h2; cases h2
              · have := hch.ord k j e x hjk he h1; omega
        -- the step on
        have next : ∀ (c2 : Cx) (a2 : Act) (w2 : World), Rel N n0 d0 (put' (AS S es 0 A) e.o.dst e.d) (happ (HS S es 0 H) e) (iups (VS S es 0 (below nx)) e.lo e.hi) c2 F a2 w2 → Later n0 d0 F c0 w0 c2 w2 →
            wpAny P .any ops Q fuel (listed.setIfInBounds k true) a2 w2 := by
          intro c2 a2 w2 hr2 hl2
          refine ih _ (plus S k) (by rw [Array.size_setIfInBounds]; exact hsz) (plus_listed (by omega) hS) (fun j x hx hs y hy hb => ?_) ?_ c2 a2 w2 (by rw [hASk, hHSk, hVSk]; exact hr2) hl2
          · simp only [plus, Bool.or_eq_true, beq_iff_eq] at hs ⊢
            rcases hs with hs | rfl
            · exact .inl (hdown j x hx hs y hy hb)
            · have : x = e.o := by
                have e1 : ops.toList[j]? = some e.o := by simpa using hop j e he
                rw [e1] at hx; cases hx; rfl
              subst this
              exact .inl (hafter' y hy hb)
          · have := countP_lt (p := fun j => !S j) (p' := fun j => !plus S k j) (fun j hj => by
              simp only [plus, Bool.not_or, Bool.and_eq_true] at hj; exact hj.1) (k := k) (by simp [hSk]) (by simp [plus]) (l := List.range ops.size) (by simp [hklt])
            omega
        have hguard : ∀ (j : Nat) (want : Bool) (t : Nat), e.o.guard = some (j, want) → guardTmp ops.toList j = some t → t ∈ looks ops.toList e.o := fun j want t h1 h2 => by
          unfold looks
          refine List.mem_append_right _ ?_
          rw [h1]; simp [h2]
        unfold wpOp
        rw [ho]
        simp only
        subst heo
        rcases hcase with ⟨_, hg, hdo⟩ | ⟨_, hd, hWn, hi0, hhi, j, want, t, hg, hgt, hv⟩
        · have hwant : Region.wanted e.o (yielded ops a'.tmps) = true := by
            cases hgd : e.o.guard with
            | none => simp [Region.wanted, hgd]
            | some q =>
              obtain ⟨j, want⟩ := q
              rw [hgd] at hg
              obtain ⟨t, h1, h2⟩ := hg
              have hb := hr'.tm t
              rw [hAat t (hguard j want t hgd h1), h2] at hb
              simp [Region.wanted, hgd, yielded_of h1 (Rp.bool_inv hb)]
          rw [if_pos hwant]
          left
          have hout : OpOut P e.o.op e.A (HS S es 0 H) (VS S es 0 (below nx)) e.d (happ (HS S es 0 H) e) (iups (VS S es 0 (below nx)) e.lo e.hi) := by
            rcases hdo with ⟨hi0, hno, hout⟩ | ⟨b, q, y, kd, t, m, k', v, hi0, hW0, hhi, hd0, _, _, hbw, ⟨f, hf⟩, hout⟩
            · have := hout (HS S es 0 H) (VS S es 0 (below nx)) (hHat hno) hfresh
              simpa [happ, hi0, hin] using this
            · have hmap : ∃ f', HS S es 0 H b = some (.map kd f') := by
                rcases hSim b hbw with h | ⟨kd', f', g, h1, h2⟩
                · exact ⟨f, by rw [h]; exact hf⟩
                · rw [hf] at h2; cases h2; exact ⟨f', h1⟩
              obtain ⟨f', hf'⟩ := hmap
              have := hout (HS S es 0 H) (VS S es 0 (below nx)) f' hf'
              rw [hhi, iups_same, hd0]
              simpa [happ, hi0, hW0, hin, hins, hsets, hf'] using this
          obtain ⟨_, hout⟩ := hout
          have hevs : Evs c' w' (VS S es 0 (below nx)) e.A a' e.o.op := fun x hx => by
            have := hr'.ev x
            have hex : ev e.A x = ev (AS S es 0 A) x := by
              cases x with
              | tmp t => exact (hAat t (looks_tmp hx)).symm
              | _ => rfl
            rw [hex]; exact this
          refine hout e.o n0 d0 F c' a' w' rfl hevs hr'.wr _ _ fun v w2 ⟨hd, c2, k1, k2, k3, k4⟩ => ?_
          exact next c2 _ w2 (hr'.put hd k1 k2 k3 (iups_le _ _ _) e.o.dst hkN) (hl'.trans k4)
        · have hb := hr'.tm t
          rw [hAat t (hguard j want t hg hgt)] at hb
          have hnw : Region.wanted e.o (yielded ops a'.tmps) = false := by
            rcases hv with hv | hv
            · rw [hv] at hb
              simp [Region.wanted, hg, yielded_of hgt (Rp.bool_inv hb)]
            · rw [hv] at hb
              obtain ⟨vs, hvs, hlv⟩ := hb
              have : vs = [] := by cases vs <;> simp_all [RdL]
              subst this
              simp [Region.wanted, hg, yielded_undef hgt hvs]
          rw [hnw]
          simp only [Bool.false_eq_true, if_false]
          have hp := hr'.putSame (d := .tup []) (v := undef) (by simp [D.under, underL]) ⟨[], rfl, trivial⟩ e.o.dst hkN
          refine next c' _ w' ?_ hl'
          rw [hd, hhi, iups_same]
          simpa [happ, hWn, hi0, hin, hsets] using hp
  have hdrew : Rel N n0 d0 A H (below nx) c F a { w with drawn := w.drawn + 1 } ∧ Later n0 d0 F c w c { w with drawn := w.drawn + 1 } := by
    obtain ⟨h1, h2, h3⟩ := hr.wr.heapEq (w' := { w with drawn := w.drawn + 1 }) rfl
    exact ⟨⟨hr.dn, hr.sz, fun t => Rd.mono (h2 (below nx)) _ _ (hr.bt t) (hr.tm t), hr.bt, h1⟩, h3⟩
  have none_ : AS (fun _ => false) es 0 A = A ∧ HS (fun _ => false) es 0 H = H ∧ VS (fun _ => false) es 0 (below nx) = below nx := by
    have k1 : ∀ (l : List Ent) (i : Nat) (B : Tmps), AS (fun _ => false) l i B = B := by
      intro l
      induction l with
      | nil => intros; rfl
      | cons y l ih => intro i B; simp only [AS, Bool.false_eq_true, if_false]; exact ih _ _
    have k2 : ∀ (l : List Ent) (i : Nat) (B : Heap), HS (fun _ => false) l i B = B := by
      intro l
      induction l with
      | nil => intros; rfl
      | cons y l ih => intro i B; simp only [HS, Bool.false_eq_true, if_false]; exact ih _ _
    have k3 : ∀ (l : List Ent) (i : Nat) (B : Ids), VS (fun _ => false) l i B = B := by
      intro l
      induction l with
      | nil => intros; rfl
      | cons y l ih => intro i B; simp only [VS, Bool.false_eq_true, if_false]; exact ih _ _
    exact ⟨k1 _ _ _, k2 _ _ _, k3 _ _ _⟩
  refine main ops.size (Array.replicate ops.size false) (fun _ => false) (by simp) (fun j => ?_) (by simp) (Nat.le_trans List.countP_le_length (by simp)) c a _ (by rw [none_.1, none_.2.1, none_.2.2]; exact hdrew.1) (hl.trans hdrew.2)
  rw [Array.getD_eq_getD_getElem?]
  cases hq : (Array.replicate ops.size false)[j]? with
  | none => rfl
  | some b => have := Array.getElem?_eq_some_iff.1 hq; simp at this; simp [this.2]

end Qa
