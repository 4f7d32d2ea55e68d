/-
  Calls, contracts, loops, and the way to a law.
  Part of a proof about the program's own text; written by an AI agent. No statement is proved here: the lemmas that the last text needs.
-/
import Derived.Test.YtiibgbkjebhbiaaQ4
import Derived.OpenShut
import Derived.Below
namespace Qa
open Go

def Lift (N n0 : Nat) (d0 F : Nat → Prop) (c0 : Cx) (w0 : World) (Q : Post) : Exit → Act → World → Prop :=
  fun e a w => ∃ A H nx c, Q e A H nx ∧ Rel N n0 d0 A H (below nx) c F a w ∧ Later n0 d0 F c0 w0 c w

theorem loop_rounds {P : Program} {body : Code} {Q Q1 : Exit → Act → World → Prop} {a : Act} {w : World} (h : body.wp P Q1 a w) (b : Frame) (k : List Item) (cs : List Frame)
    (hQ : ∀ e a w, Q1 e a w → e ≠ .normal → Q e a w)
    (hN : ∀ a1 w1, Q1 .normal a1 w1 → ∃ e a' w', Q e a' w' ∧ Arrives P (lone (b.at a1 (.code body :: .inLoop body :: k)) cs w1) b k cs e a' w') :
    ∃ e a' w', Q e a' w' ∧ Arrives P (lone (b.at a (.code body :: .inLoop body :: k)) cs w) b k cs e a' w' := by
  obtain ⟨e, a₁, w₁, hq, harr⟩ := h b (.inLoop body :: k) cs
  cases e with
  | normal =>
    obtain ⟨e₂, a₂, w₂, hq₂, harr₂⟩ := hN a₁ w₁ hq
    exact ⟨e₂, a₂, w₂, hq₂, .of_steps (Steps.trans harr (.one step_inLoop)) harr₂⟩
  | exit id => exact ⟨_, a₁, w₁, hQ _ _ _ hq (by simp), .pass (x := .inLoop body) rfl (fun _ _ => .inl (by simp)) harr⟩
  | goto l => exact ⟨_, a₁, w₁, hQ _ _ _ hq (by simp), .pass (x := .inLoop body) rfl (fun _ _ => .inl (by simp)) harr⟩
  | ret => exact ⟨_, a₁, w₁, hQ _ _ _ hq (by simp), .pass (x := .inLoop body) rfl (fun _ _ => .inl (by simp)) harr⟩
  | panic ch => exact ⟨_, a₁, w₁, hQ _ _ _ hq (by simp), .pass (x := .inLoop body) rfl (fun _ _ => .inl (by simp)) harr⟩
  | outgrown => exact ⟨_, a₁, w₁, hQ _ _ _ hq (by simp), .pass (x := .inLoop body) rfl (fun _ _ => .inl (by simp)) harr⟩

theorem aexec_sound {P : Program} {T : Ty} (hT : TyOk P T) (hm : P.follows .mixedOrders = true) {N n0 : Nat} {d0 F : Nat → Prop} {c0 : Cx} {w0 : World} :
    ∀ (code : Code) (A : Tmps) (H : Heap) (nx : Nat) (Q : Post), codeOk N code = true → aexec P T n0 code A H nx Q → ∀ (c : Cx) (a : Act) (w : World),
      Rel N n0 d0 A H (below nx) c F a w → Later n0 d0 F c0 w0 c w → code.wp P (Lift N n0 d0 F c0 w0 Q) a w := by
  intro code
  induction code with
  | skip => intro A H nx Q _ h c a w hr hl; exact wp_skip ⟨A, H, nx, c, h, hr, hl⟩
  | ret => intro A H nx Q _ h c a w hr hl; exact wp_ret ⟨A, H, nx, c, h, hr, hl⟩
  | exit id => intro A H nx Q _ h c a w hr hl; exact wp_exit ⟨A, H, nx, c, h, hr, hl⟩
  | region id ops draw =>
    intro A H nx Q hok h c a w hr hl
    simp only [aexec] at h
    cases draw with
    | true =>
      simp only at h
      simp only [needP_iff] at h
      exact draw_sound hT hm h hok hr hl fun A' H' nx' c' a' w' hq hr' hl' => ⟨A', H', nx', c', hq, hr', hl'⟩
    | false =>
      simp only at h
      obtain ⟨hf, hg⟩ := group_flat ops.toList
      refine wp_region_list ?_
      have := agroups_sound hT (Q := Lift N n0 d0 F c0 w0 Q) (ops := ops) (group ops.toList) A H nx _ h (by rw [hf]; exact hok) hg c a w hr
        fun A' H' nx' c' a' w' k1 k2 k3 => ⟨A', H', nx', c', k1, k2, hl.trans k3⟩
      rw [hf] at this
      exact this
  | seq x y ihx ihy =>
    intro A H nx Q hok h c a w hr hl
    simp only [aexec] at h
    simp only [codeOk] at hok
    split at hok
    case h_2 => cases hok
    rename_i hx
    refine wp_seq (wp_mono (ihx A H nx _ hx h c a w hr hl) ?_)
    rintro e a' w' ⟨A', H', nx', c', hq, hr', hl'⟩
    cases e with
    | normal => exact ihy A' H' nx' Q hok hq c' a' w' hr' hl'
    | _ => exact ⟨A', H', nx', c', hq, hr', hl'⟩
  | cond cnd x y ihx ihy =>
    intro A H nx Q hok h c a w hr hl
    simp only [aexec] at h
    simp only [codeOk] at hok
    split at hok
    case h_2 => cases hok
    rename_i hx
    split at h
    case h_2 => simp [stuckP] at h
    rename_i b hb
    obtain ⟨hrc, _⟩ := hr.ev cnd
    rw [hb] at hrc
    refine wp_cond (Rp.bool_inv hrc) ?_
    rcases condB_cases h with ⟨rfl, h⟩ | ⟨rfl, h⟩
    · exact ihx A H nx Q hx h c a w hr hl
    · exact ihy A H nx Q hok h c a w hr hl
  | block id body ih =>
    intro A H nx Q hok h c a w hr hl
    simp only [aexec] at h
    refine wp_block (wp_mono (ih A H nx _ hok h c a w hr hl) ?_)
    rintro e a' w' ⟨A', H', nx', c', hq, hr', hl'⟩
    cases e with
    | exit i =>
      simp only [Exit.inBlock]
      simp only [ablock] at hq
      split at hq
      · rename_i he
        rw [if_pos (Nat.eq_of_beq_eq_true he)]
        exact ⟨A', H', nx', c', hq, hr', hl'⟩
      · rename_i he
        have hne : i ≠ id := fun e => by simp [e] at he
        rw [if_neg hne]
        exact ⟨A', H', nx', c', hq, hr', hl'⟩
    | _ => exact ⟨A', H', nx', c', hq, hr', hl'⟩
  | loop body ih =>
    intro A H nx Q hok h c a w hr hl
    simp only [aexec, loopP] at h
    obtain ⟨A1, H1, nx1, hle, h⟩ := h
    obtain ⟨c1, hr1, hl1⟩ := hle N d0 F c a w hr
    have key := h (fun A H nx => ∀ (c : Cx) (a : Act) (w : World), Rel N n0 d0 A H (below nx) c F a w → Later n0 d0 F c0 w0 c w → ∀ (b : Frame) (k : List Item) (cs : List Frame),
      ∃ e a' w', Lift N n0 d0 F c0 w0 Q e a' w' ∧ Arrives P (lone (b.at a (.code body :: .inLoop body :: k)) cs w) b k cs e a' w') ?_
    · intro b k cs
      obtain ⟨e, a', w', hq, harr⟩ := key c1 a w hr1 (hl.trans hl1) b k cs
      exact ⟨e, a', w', hq, .of_steps (.one step_loop) harr⟩
    · intro A H nx hF c a w hr hl b k cs
      refine loop_rounds (ih A H nx _ hok hF c a w hr hl) b k cs ?_ ?_
      · rintro e a' w' ⟨A', H', nx', c', hq, hr', hl'⟩ hne
        cases e with
        | normal => exact absurd rfl hne
        | _ => exact ⟨A', H', nx', c', hq, hr', hl'⟩
      · rintro a1 w1 ⟨A', H', nx', c', ⟨A2, H2, nx2, hle, hR⟩, hr', hl'⟩
        obtain ⟨c2, hr2, hl2⟩ := hle N d0 F c' a1 w1 hr'
        exact hR c2 a1 w1 hr2 (hl'.trans hl2) b k cs
  | _ => intro A H nx Q _ h; simp [aexec, stuckP] at h

-- results
def resK (T : Ty) : List ResultVar → Tmps → Heap → (List D → Prop) → Prop
  | [], _, _, K => K []
  | .tmp t :: r, A, H, K => force (A t) fun d => resK T r A H fun ds => K (d :: ds)
  | .cell a t :: r, A, H, K => loadK T t (A a) H fun d _ => resK T r A H fun ds => K (d :: ds)

def resD : List D → D
  | [d] => d
  | ds => .tup ds

theorem loadK_run {P : Program} {T : Ty} (hT : TyOk P T) {t : TypeId} {x : Nat} {A : Tmps} {H : Heap} {K : D → Fp → Prop} (h : loadK T t (A x) H K) {N n0 nx : Nat} {d0 F : Nat → Prop} {c : Cx} {a : Act} {w : World}
    (hr : Rel N n0 d0 A H (below nx) c F a w) : ∃ d fp, K d fp ∧ d.under (below nx) = true ∧ ∃ v ad, a.tmps.getD x undef = .pointer (some ad) ∧ (loadVar t ad).run P w = .ok v w ∧ Rd c w d v := by
  have hx := hr.tm x
  unfold loadK at h
  split at h
  · rename_i b o he
    split at h
    · rename_i e cs hb
      obtain ⟨d, hk, hs⟩ := loadCs_sound hT h
      rw [he] at hx
      obtain ⟨vs, hv, hrl, h1, _⟩ := hr.wr.blk b _ hb
      have hun : underL (below nx) cs = true := by simpa [Blk.under] using (hr.wr.bh b _ hb).2
      obtain ⟨hd, v, hv', hrd⟩ := hs (below nx) c w (c.ρ b) o (vs.drop o) (underL_drop o hun) (RdL_drop o hrl) (fun v hv => h1 v (List.mem_of_mem_drop hv))
        (fun j v hj => cells_at (c := c) hv (by simpa using hj))
      exact ⟨d, _, hk, hd, v, _, hx, hv', hrd⟩
    · simp [stuckP] at h
  · rename_i b o he
    split at h
    · rename_i e cs hb
      have key : ∀ (h1 : (T t).d ≠ .bad) (h2 : ∀ fs, (T t).d ≠ .struct fs) (h3 : ∀ n e s, (T t).d ≠ .arr n e s), (getD cs o fun d => force d fun d => K d ⟨[b], []⟩) →
          ∃ d fp, K d fp ∧ d.under (below nx) = true ∧ ∃ v ad, a.tmps.getD x undef = .pointer (some ad) ∧ (loadVar t ad).run P w = .ok v w ∧ Rd c w d v := by
        intro h1 h2 h3 hg
        simp only [getD_iff] at hg
        obtain ⟨d, hd, hk⟩ := hg
        rw [force_iff] at hk
        rw [he] at hx
        obtain ⟨vs, hv, hrl, _, _⟩ := hr.wr.blk b _ hb
        have hun : underL (below nx) cs = true := by simpa [Blk.under] using (hr.wr.bh b _ hb).2
        obtain ⟨v, hv', hrd⟩ := RdL_get hrl hd
        exact ⟨d, _, hk, underL_get hun hd, v, _, hx, run_loadVar_one hT h1 h2 h3 w _ _ v (cells_at (c := c) hv hv'), hrd⟩
      cases hd : (T t).d <;> simp only [hd] at h <;> first
        | (simp [stuckP] at h; done)
        | exact key (by simp [hd]) (by simp [hd]) (by simp [hd]) h
    · simp [stuckP] at h
  · rename_i cs he
    obtain ⟨d, hk, hun, hs⟩ := loadPs_sound hT h
    rw [he] at hx
    obtain ⟨g, o, u, hr', hc⟩ := hx
    obtain ⟨v, hv, hd⟩ := hs c w g o u hc
    exact ⟨d, _, hk, hun (below nx), v, _, hr', hv, hd⟩
  · simp [stuckP] at h

def resOne (tmps : Array Value) : ResultVar → Sem Value
  | .tmp t => pure (tmps.getD t undef)
  | .cell x t => do loadVar t (← asAddr (tmps.getD x undef))

theorem results_eq (fn : Func) (tmps : Array Value) : results fn tmps = (do
    let vs ← fn.results.mapM (resOne tmps)
    pure (if h : vs.size = 1 then vs[0] else .tuple vs)) := by
  unfold results
  congr 1

theorem resK_run {P : Program} {T : Ty} (hT : TyOk P T) {N n0 nx : Nat} {d0 F : Nat → Prop} {A : Tmps} {H : Heap} {c : Cx} {a : Act} {w : World} (hr : Rel N n0 d0 A H (below nx) c F a w) :
    ∀ (rs : List ResultVar) (K : List D → Prop), resK T rs A H K → ∃ ds vs, K ds ∧ underL (below nx) ds = true ∧ RdL c w ds vs ∧
      (rs.mapM (resOne a.tmps)).run P w = .ok vs w
  | [], K, h => ⟨[], [], h, by simp [underL], trivial, by simp⟩
  | .tmp t :: r, K, h => by
    simp only [resK, force_iff] at h
    obtain ⟨ds, vs, h1, h2, h3, h4⟩ := resK_run hT hr r _ h
    refine ⟨_, _ :: vs, h1, by simp [underL, hr.bt t, h2], ⟨hr.tm t, h3⟩, ?_⟩
    rw [List.mapM_cons]
    simp only [resOne, Sem.run_bind, Sem.run_pure, Result.andThen_ok, h4]
  | .cell x t :: r, K, h => by
    simp only [resK] at h
    obtain ⟨d, fp, hk, hu, v, ad, hv, hl, hrd⟩ := loadK_run hT h hr
    obtain ⟨ds, vs, h1, h2, h3, h4⟩ := resK_run hT hr r _ hk
    refine ⟨_, v :: vs, h1, by simp [underL, hu, h2], ⟨hrd, h3⟩, ?_⟩
    have hv' : (asAddr (a.tmps.getD x undef)).run P w = .ok ad w := by rw [hv]; rfl
    rw [List.mapM_cons]
    simp only [resOne, Sem.run_bind, hv', Sem.run_pure, Result.andThen_ok, hl, h4]

/-- the end of a function's body: the result and the heap that it leaves. -/
def retP (T : Ty) (rs : List ResultVar) (K : D → Heap → Nat → Prop) : Post
  | .normal, A, H, nx => resK T rs A H fun ds => K (resD ds) H nx
  | .ret, A, H, nx => resK T rs A H fun ds => K (resD ds) H nx
  | _, _, _, _ => stuckP "the body's end"

theorem results_run {P : Program} {T : Ty} (hT : TyOk P T) {fn : Func} {N n0 nx : Nat} {d0 F : Nat → Prop} {A : Tmps} {H : Heap} {c : Cx} {a : Act} {w : World} (hr : Rel N n0 d0 A H (below nx) c F a w) {K : D → Prop}
    (h : resK T fn.results.toList A H fun ds => K (resD ds)) : ∃ d v, K d ∧ d.under (below nx) = true ∧ Rd c w d v ∧ (results fn a.tmps).run P w = .ok v w := by
  obtain ⟨ds, vs, h1, h2, h3, h4⟩ := resK_run hT hr _ _ h
  have hl := RdL_len h3
  refine ⟨resD ds, if h : vs.toArray.size = 1 then vs.toArray[0] else .tuple vs.toArray, h1, ?_, ?_, ?_⟩
  · unfold resD
    split
    · simpa [underL] using h2
    · simpa [D.under] using h2
  · unfold resD
    split
    · match vs, h3 with
      | [v], h3 => simpa using h3.1
    · rename_i hne
      have : ¬ vs.toArray.size = 1 := by
        intro e
        have e : ds.length = 1 := by simpa [hl] using e
        match ds, e, hne with
        | [d], _, hne => exact hne d rfl
      rw [dif_neg this]
      exact ⟨vs, rfl, h3⟩
  · rw [results_eq, Array.mapM_eq_mapM_toList]
    simp only [Sem.run_bind, map_eq_pure_bind, h4, Result.andThen_ok, Sem.run_pure]

end Qa

namespace Qa
open Go

def H0 : Heap := fun _ => none
def dom (H : Heap) : Nat → Prop := fun b => H b ≠ none

def lheap : Nat → List Blk → Heap
  | _, [] => H0
  | n, b :: r => hset (lheap (n + 1) r) n b

theorem lheap_lt : ∀ (Hs : List Blk) (n b : Nat), b < n → lheap n Hs b = none
  | [], _, _, _ => rfl
  | x :: r, n, b, h => by
    simp only [lheap]
    rw [hset_ne _ _ (by omega)]
    exact lheap_lt r (n + 1) b (by omega)
theorem lheap_get : ∀ (Hs : List Blk) (n b : Nat), lheap n Hs (n + b) = Hs[b]?
  | [], _, _ => rfl
  | x :: r, n, 0 => by simp only [lheap, Nat.add_zero, hset_same]; rfl
  | x :: r, n, b + 1 => by
    simp only [lheap]
    rw [hset_ne _ _ (by omega), show n + (b + 1) = (n + 1) + b by omega, lheap_get r (n + 1) b]
    simp
theorem lheap_get0 (Hs : List Blk) (b : Nat) : lheap 0 Hs b = Hs[b]? := by
  have := lheap_get Hs 0 b
  simpa using this

-- ids said anew
mutual
def D.ren (σ : Nat → Nat) : D → D
  | .acc b xs => .acc (σ b) xs
  | .ref b o => .ref (σ b) o
  | .xref b o => .xref (σ b) o
  | .ms b s l n c => .ms (σ b) s l n c
  | .map b => .map (σ b)
  | .vec b v s l n => .vec (σ b) v s l n
  | .vref b v s i => .vref (σ b) v s i
  | .agg cs => .agg (renL σ cs)
  | .tup cs => .tup (renL σ cs)
  | .fn f a b => .fn f (renL σ a) (renL σ b)
  | .p x => .p x
  | .nilsl => .nilsl
  | .full xs => .full xs
  | .cptr cs => .cptr cs
  | .nilptr => .nilptr
  | .nilfn => .nilfn
  | .nilmap => .nilmap
  | .junk => .junk
def renL (σ : Nat → Nat) : List D → List D
  | [] => []
  | d :: ds => d.ren σ :: renL σ ds
end

def Blk.ren (σ : Nat → Nat) : Blk → Blk
  | .cells e cs => .cells e (renL σ cs)
  | .tok e s n => .tok e s n
  | .vec e s v xs => .vec e s v xs
  | .map kd m => .map kd m

def Cx.pull (c : Cx) (σ : Nat → Nat) : Cx := ⟨fun b => c.ρ (σ b), fun b => c.τ (σ b), c.K⟩

mutual
theorem Rd_ren {c : Cx} {σ : Nat → Nat} {w : World} : ∀ (d : D) (v : Value), Rd c w (d.ren σ) v ↔ Rd (c.pull σ) w d v
  | .acc b xs, v => by simp only [D.ren, Rd, Cx.pull]
  | .ref b o, v => by simp only [D.ren, Rd, Cx.pull]
  | .xref b o, v => by simp only [D.ren, Rd, Cx.pull]
  | .ms b s l n cp, v => by simp only [D.ren, Rd, Cx.pull]
  | .map b, v => by simp only [D.ren, Rd, Cx.pull]
  | .vec b vr s l n, v => by simp only [D.ren, Rd, Cx.pull]
  | .vref b vr s i, v => by simp only [D.ren, Rd, Cx.pull]
  | .agg cs, v => by
    simp only [D.ren, Rd]
    exact ⟨fun ⟨vs, h, k⟩ => ⟨vs, h, (Rd_renL cs vs).1 k⟩, fun ⟨vs, h, k⟩ => ⟨vs, h, (Rd_renL cs vs).2 k⟩⟩
  | .tup cs, v => by
    simp only [D.ren, Rd]
    exact ⟨fun ⟨vs, h, k⟩ => ⟨vs, h, (Rd_renL cs vs).1 k⟩, fun ⟨vs, h, k⟩ => ⟨vs, h, (Rd_renL cs vs).2 k⟩⟩
  | .fn f a b, v => by
    simp only [D.ren, Rd]
    exact ⟨fun ⟨as, bs, h, k, l⟩ => ⟨as, bs, h, (Rd_renL a as).1 k, (Rd_renL b bs).1 l⟩, fun ⟨as, bs, h, k, l⟩ => ⟨as, bs, h, (Rd_renL a as).2 k, (Rd_renL b bs).2 l⟩⟩
  | .p x, v => by simp only [D.ren, Rd, Cx.pull]
  | .nilsl, v => by simp only [D.ren, Rd]
  | .full xs, v => by simp only [D.ren, Rd, Cx.pull]
  | .cptr cs, v => by simp only [D.ren, Rd, Cx.pull]
  | .nilptr, v => by simp only [D.ren, Rd]
  | .nilfn, v => by simp only [D.ren, Rd]
  | .nilmap, v => by simp only [D.ren, Rd]
  | .junk, v => by simp only [D.ren, Rd]
theorem Rd_renL {c : Cx} {σ : Nat → Nat} {w : World} : ∀ (ds : List D) (vs : List Value), RdL c w (renL σ ds) vs ↔ RdL (c.pull σ) w ds vs
  | [], [] => by simp only [renL, RdL]
  | d :: ds, v :: vs => by simp only [renL, RdL]; rw [Rd_ren d v, Rd_renL ds vs]
  | [], _ :: _ => by simp only [renL, RdL]
  | _ :: _, [] => by simp only [renL, RdL]
end

mutual
theorem under_ren {σ : Nat → Nat} {n m : Ids} (h : ∀ b, n b = true → m (σ b) = true) : ∀ (d : D), d.under n = true → (d.ren σ).under m = true
  | .acc b _, hd | .ref b _, hd | .xref b _, hd | .ms b _ _ _ _, hd | .map b, hd | .vec b _ _ _ _, hd | .vref b _ _ _, hd => by
    simp only [D.ren, D.under] at hd ⊢; exact h b hd
  | .agg cs, hd => by simp only [D.ren, D.under] at hd ⊢; exact underL_ren h cs hd
  | .tup cs, hd => by simp only [D.ren, D.under] at hd ⊢; exact underL_ren h cs hd
  | .fn _ a b, hd => by
    simp only [D.ren, D.under, Bool.and_eq_true] at hd ⊢; exact ⟨underL_ren h a hd.1, underL_ren h b hd.2⟩
  | .p _, _ | .nilsl, _ | .full _, _ | .cptr _, _ | .nilptr, _ | .nilfn, _ | .nilmap, _ | .junk, _ => by simp [D.ren, D.under]
theorem underL_ren {σ : Nat → Nat} {n m : Ids} (h : ∀ b, n b = true → m (σ b) = true) : ∀ (ds : List D), underL n ds = true → underL m (renL σ ds) = true
  | [], _ => by simp [renL, underL]
  | d :: ds, hd => by
    simp only [renL, underL, Bool.and_eq_true] at hd ⊢
    exact ⟨under_ren h d hd.1, underL_ren h ds hd.2⟩
end

-- saying less
def DLe (d d' : D) : Prop := ∀ (c : Cx) (w : World) (v : Value), Rd c w d v → Rd c w d' v
theorem DLe.refl (d : D) : DLe d d := fun _ _ _ h => h
theorem DLe.eq {d d' : D} (h : d = d') : DLe d d' := h ▸ DLe.refl d
theorem DLe.p {x y : Pd} (h : x = y) : DLe (.p x) (.p y) := h ▸ DLe.refl _
theorem DLe.junk (d : D) : DLe d .junk := fun _ _ _ _ => trivial
theorem DLe.acc (b : Nat) (xs : List Pd) : DLe (.acc b xs) (.p (.list xs)) := fun _ _ _ h => h.1
theorem DLe.full (xs : List Pd) : DLe (.full xs) (.p (.list xs)) := fun _ _ _ h => h.1
theorem DLe.nil : DLe .nilsl (.p (.list [])) := fun c w v h => by
  have : v = .slice none 0 0 := h
  subst this; exact .nil
theorem DLe.trans {a b c : D} (h : DLe a b) (h2 : DLe b c) : DLe a c := fun x w v k => h2 x w v (h x w v k)

def DLeL : List D → List D → Prop
  | [], [] => True
  | a :: as, b :: bs => DLe a b ∧ DLeL as bs
  | _, _ => False
theorem DLeL.rd {c : Cx} {w : World} : ∀ {as bs : List D} {vs : List Value}, DLeL as bs → RdL c w as vs → RdL c w bs vs
  | [], [], [], _, _ => trivial
  | a :: as, b :: bs, v :: vs, h, k => ⟨h.1 _ _ _ k.1, DLeL.rd h.2 k.2⟩
  | [], _ :: _, _, h, _ => h.elim
  | _ :: _, [], _, h, _ => h.elim
  | [], [], _ :: _, _, k => k.elim
  | _ :: _, _ :: _, [], _, k => k.elim
theorem DLeL.refl : ∀ (as : List D), DLeL as as
  | [] => trivial
  | a :: as => ⟨DLe.refl a, DLeL.refl as⟩

def BLe : Blk → Blk → Prop
  | .cells e cs, .cells e' cs' => e = e' ∧ DLeL cs cs'
  | .tok e s n, .tok e' s' n' => e = e' ∧ s = s' ∧ n = n'
  | .vec e s v cs, .vec e' s' v' cs' => e = e' ∧ s = s' ∧ v = v' ∧ cs = cs'
  | .map kd m, .map kd' m' => kd = kd' ∧ m = m'
  | _, _ => False
theorem BLe.refl : ∀ (b : Blk), BLe b b
  | .cells _ cs => ⟨rfl, DLeL.refl cs⟩
  | .tok _ _ _ => ⟨rfl, rfl, rfl⟩
  | .vec _ _ _ _ => ⟨rfl, rfl, rfl, rfl⟩
  | .map _ _ => ⟨rfl, rfl⟩
theorem BLe.eq {a b : Blk} (h : a = b) : BLe a b := h ▸ BLe.refl a
theorem BLe.cells {e e' : TypeId} {as bs : List D} (he : e = e') (h : DLeL as bs) : BLe (.cells e as) (.cells e' bs) := ⟨he, h⟩
theorem BLe.rel {c : Cx} {F : Nat → Prop} {w : World} {b : Nat} : ∀ {k k' : Blk}, BLe k k' → BlkRel c F w b k → BlkRel c F w b k'
  | .cells e cs, .cells e' cs', h, hb => by
    obtain ⟨rfl, hl⟩ := h
    obtain ⟨vs, h1, h2, h3⟩ := hb
    exact ⟨vs, h1, hl.rd h2, h3⟩
  | .tok .., .tok .., h, hb => by
    obtain ⟨rfl, rfl, rfl⟩ := h
    exact hb
  | .vec e s v cs, .vec e' s' v' cs', h, hb => by
    obtain ⟨rfl, rfl, rfl, rfl⟩ := h
    exact hb
  | .map .., .map .., h, hb => by
    obtain ⟨rfl, rfl⟩ := h
    exact hb
  | .map .., .cells .., h, _ => h.elim
  | .map .., .tok .., h, _ => h.elim
  | .map .., .vec .., h, _ => h.elim
  | .cells .., .map .., h, _ => h.elim
  | .tok .., .map .., h, _ => h.elim
  | .vec .., .map .., h, _ => h.elim
  | .cells .., .tok .., h, _ => h.elim
  | .tok .., .cells .., h, _ => h.elim
  | .cells .., .vec .., h, _ => h.elim
  | .vec .., .cells .., h, _ => h.elim
  | .tok .., .vec .., h, _ => h.elim
  | .vec .., .tok .., h, _ => h.elim
theorem BLe.place {c : Cx} {b : Nat} : ∀ {k k' : Blk}, BLe k k' → place c b k' = place c b k
  | .cells e cs, .cells e' cs', _ => rfl
  | .tok .., .tok .., _ => rfl
  | .vec .., .vec .., _ => rfl
  | .map .., .map .., _ => rfl
  | .map .., .cells .., h => h.elim
  | .map .., .tok .., h => h.elim
  | .map .., .vec .., h => h.elim
  | .cells .., .map .., h => h.elim
  | .tok .., .map .., h => h.elim
  | .vec .., .map .., h => h.elim
  | .cells .., .tok .., h => h.elim
  | .tok .., .cells .., h => h.elim
  | .cells .., .vec .., h => h.elim
  | .vec .., .cells .., h => h.elim
  | .tok .., .vec .., h => h.elim
  | .vec .., .tok .., h => h.elim

theorem BlkRel_ren {c : Cx} {σ : Nat → Nat} {F : Nat → Prop} {w : World} {b : Nat} : ∀ (k : Blk), BlkRel c F w (σ b) (k.ren σ) ↔ BlkRel (c.pull σ) F w b k
  | .cells e cs => by
    simp only [Blk.ren, BlkRel]
    constructor
    · rintro ⟨vs, h1, h2, h3⟩; exact ⟨vs, h1, (Rd_renL cs vs).1 h2, h3⟩
    · rintro ⟨vs, h1, h2, h3⟩; exact ⟨vs, h1, (Rd_renL cs vs).2 h2, h3⟩
  | .tok e s n => by simp only [Blk.ren, BlkRel, Cx.pull]
  | .vec e s ver cs => by simp only [Blk.ren, BlkRel, Cx.pull]
  | .map kd m => by simp only [Blk.ren, BlkRel, Cx.pull]
theorem place_ren {c : Cx} {σ : Nat → Nat} {b : Nat} : ∀ (k : Blk), place c (σ b) (k.ren σ) = place (c.pull σ) b k
  | .cells .. => rfl
  | .tok .. => rfl
  | .vec .. => rfl
  | .map .. => rfl

/-- where the callee's ids lie. -/
def sig (ids : List Nat) (nx : Nat) (b : Nat) : Nat := match ids[b]? with | some g => g | none => nx + (b - ids.length)

def idsOk (nx : Nat) : List Nat → Bool
  | [] => true
  | i :: is => match Nat.blt i nx with
    | true => match is.contains i with | true => false | false => idsOk nx is
    | false => false

theorem idsOk_cons {nx i : Nat} {is : List Nat} (h : idsOk nx (i :: is) = true) : i < nx ∧ i ∉ is ∧ idsOk nx is = true := by
  simp only [idsOk] at h
  split at h
  · rename_i h1
    split at h
    · cases h
    · rename_i h2
      refine ⟨by simpa using h1, fun hm => ?_, h⟩
      simp [hm] at h2
  · cases h
theorem idsOk_lt {nx : Nat} : ∀ {ids : List Nat}, idsOk nx ids = true → ∀ i ∈ ids, i < nx
  | [], _, i, hi => by simp at hi
  | x :: xs, h, i, hi => by
    obtain ⟨h1, _, h3⟩ := idsOk_cons h
    rcases List.mem_cons.1 hi with rfl | hi
    · exact h1
    · exact idsOk_lt h3 i hi
theorem idsOk_inj {nx : Nat} : ∀ {ids : List Nat}, idsOk nx ids = true → ∀ (a b g : Nat), ids[a]? = some g → ids[b]? = some g → a = b
  | [], _, a, b, g, ha, _ => by simp at ha
  | x :: xs, h, a, b, g, ha, hb => by
    obtain ⟨_, h2, h3⟩ := idsOk_cons h
    cases a with
    | zero =>
      cases b with
      | zero => rfl
      | succ b =>
        simp at ha hb
        subst ha
        exact absurd (List.mem_of_getElem? hb) h2
    | succ a =>
      cases b with
      | zero =>
        simp at ha hb
        subst hb
        exact absurd (List.mem_of_getElem? ha) h2
      | succ b =>
        simp at ha hb
        rw [idsOk_inj h3 a b g ha hb]
end Qa

namespace Qa
open Go

/-- a function's contract: from values and a small heap to a value and the heap behind the call. -/
def AC (P : Program) (f : Nat) (ds : List D) (Hs : List Blk) (d : D) (Hs' : List Blk) : Prop :=
  FnOk P f ∧ Hs.length ≤ Hs'.length ∧ ∀ (F : Nat → Prop) (c : Cx) (w : World) (vs : List Value), RdL c w ds vs → WRel Hs.length (dom (lheap 0 Hs)) (lheap 0 Hs) (below Hs.length) c F w →
    Calls P f vs.toArray w fun e w' => ∃ v c', e = .returned v ∧ d.under (below Hs'.length) = true ∧ Rd c' w' d v ∧ WRel Hs.length (dom (lheap 0 Hs)) (lheap 0 Hs') (below Hs'.length) c' F w' ∧
      Later Hs.length (dom (lheap 0 Hs)) F c w c' w'

/-- a contract of pure data alone. -/
abbrev AP (P : Program) (f : Nat) (xs : List Pd) (r : D) : Prop := AC P f (xs.map D.p) [] r []

def ldHeap (H : Heap) (σ : Nat → Nat) (m : Ids) : List Nat → List Blk → Prop
  | [], [] => True
  | i :: is, b :: bs => (∃ k, H i = some k ∧ BLe k (b.ren σ) ∧ b.under m = true) ∧ ldHeap H σ m is bs
  | _, _ => False
theorem ldHeap_nil {H : Heap} {σ : Nat → Nat} {m : Ids} : ldHeap H σ m [] [] := trivial
theorem ldHeap_cons {H : Heap} {σ : Nat → Nat} {m : Ids} {i : Nat} {b k : Blk} {is : List Nat} {bs : List Blk} (h : H i = some k) (hb : BLe k (b.ren σ)) (hu : b.under m = true) (hr : ldHeap H σ m is bs) :
    ldHeap H σ m (i :: is) (b :: bs) := ⟨⟨k, h, hb, hu⟩, hr⟩
theorem ldHeap_len {H : Heap} {σ : Nat → Nat} {m : Ids} : ∀ {ids : List Nat} {bs : List Blk}, ldHeap H σ m ids bs → ids.length = bs.length
  | [], [], _ => rfl
  | _ :: is, _ :: bs, h => by simp [ldHeap_len (ids := is) (bs := bs) h.2]
  | [], _ :: _, h => h.elim
  | _ :: _, [], h => h.elim
theorem ldHeap_get {H : Heap} {σ : Nat → Nat} {m : Ids} : ∀ {ids : List Nat} {bs : List Blk}, ldHeap H σ m ids bs → ∀ (j i : Nat) (b : Blk), ids[j]? = some i → bs[j]? = some b →
    ∃ k, H i = some k ∧ BLe k (b.ren σ) ∧ b.under m = true
  | [], [], _, j, i, b, hi, _ => by simp at hi
  | x :: is, y :: bs, h, 0, i, b, hi, hb => by simp at hi hb; subst hi; subst hb; exact h.1
  | x :: is, y :: bs, h, j + 1, i, b, hi, hb => by simp at hi hb; exact ldHeap_get h.2 j i b hi hb
  | [], _ :: _, h, _, _, _, _, _ => h.elim
  | _ :: _, [], h, _, _, _, _, _ => h.elim

/-- the end of a body says less: `ids`: where the contract's blocks lie in the body's heap. -/
def DoneS (Hs : List Blk) (d1 : D) (H1 : Heap) (nx1 : Nat) (d : D) (Hs' : List Blk) : Prop :=
  Hs.length ≤ Hs'.length ∧ ∃ ids : List Nat, idsOk nx1 ids = true ∧ (∀ b, b < Hs.length → ids[b]? = some b) ∧ ldHeap H1 (sig ids nx1) (below Hs'.length) ids Hs' ∧ DLe d1 (d.ren (sig ids nx1)) ∧ d.under (below Hs'.length) = true

/-- the end of a body says less. -/
def DoneLe (Hs : List Blk) (d1 : D) (H1 : Heap) (nx1 : Nat) (d : D) (Hs' : List Blk) : Prop :=
  d.under (below Hs'.length) = true ∧ ∀ (d0 F : Nat → Prop) (c0 c : Cx) (w0 w : World) (v : Value), Rd c w d1 v → WRel Hs.length d0 H1 (below nx1) c F w → Later Hs.length d0 F c0 w0 c w →
    ∃ c', Rd c' w d v ∧ WRel Hs.length d0 (lheap 0 Hs') (below Hs'.length) c' F w ∧ Later Hs.length d0 F c0 w0 c' w

theorem DoneS.mk {Hs : List Blk} {d1 : D} {H1 : Heap} {nx1 : Nat} {d : D} {Hs' : List Blk} (ids : List Nat) (h1 : idsOk nx1 ids = true) (h2 : ids.take Hs.length = List.range Hs.length)
    (h3 : ldHeap H1 (sig ids nx1) (below Hs'.length) ids Hs') (h4 : DLe d1 (d.ren (sig ids nx1))) (h5 : d.under (below Hs'.length) = true) (h6 : Nat.ble Hs.length Hs'.length = true) : DoneS Hs d1 H1 nx1 d Hs' :=
  ⟨Nat.le_of_ble_eq_true h6, ids, h1, fun b hb => by
    have : (ids.take Hs.length)[b]? = some b := by rw [h2]; simp [hb]
    rwa [List.getElem?_take_of_lt hb] at this, h3, h4, h5⟩

theorem DoneS.pure {d1 d : D} {H1 : Heap} {nx1 : Nat} (h : DLe d1 d) (hd : ∀ σ, d.ren σ = d) (hu : d.under (below 0) = true) : DoneS [] d1 H1 nx1 d [] :=
  ⟨Nat.le_refl _, [], rfl, fun b hb => absurd hb (Nat.not_lt_zero _), trivial, by rw [hd]; exact h, hu⟩

theorem DoneS.le {Hs Hs' : List Blk} {d1 d : D} {H1 : Heap} {nx1 : Nat} (h : DoneS Hs d1 H1 nx1 d Hs') {d0 F : Nat → Prop} {c0 c : Cx} {w0 w : World} {v : Value} (hr : Rd c w d1 v)
    (hw : WRel Hs.length d0 H1 (below nx1) c F w) (hl : Later Hs.length d0 F c0 w0 c w) :
    ∃ c', Rd c' w d v ∧ WRel Hs.length d0 (lheap 0 Hs') (below Hs'.length) c' F w ∧ Later Hs.length d0 F c0 w0 c' w := by
  obtain ⟨hle, ids, hids, hpre, hH, hd, hu⟩ := h
  have hlen := ldHeap_len hH
  have hσ : ∀ b g, ids[b]? = some g → sig ids nx1 b = g := fun b g e => by simp [sig, e]
  have get : ∀ b k, lheap 0 Hs' b = some k → ∃ g k1, ids[b]? = some g ∧ sig ids nx1 b = g ∧ H1 g = some k1 ∧ BLe k1 (k.ren (sig ids nx1)) ∧ k.under (below Hs'.length) = true := fun b k hb => by
    rw [lheap_get0] at hb
    have hlt := (List.getElem?_eq_some_iff.1 hb).1
    have hg : ids[b]? = some (ids[b]'(by omega)) := List.getElem?_eq_getElem (by omega)
    obtain ⟨k1, e1, e2, e3⟩ := ldHeap_get hH b _ k hg hb
    exact ⟨_, k1, hg, hσ b _ hg, e1, e2, e3⟩
  refine ⟨c.pull (sig ids nx1), (Rd_ren d v).1 (hd c w v hr), ⟨fun b k hb => ?_, fun b b' k k' g hb hb' hp hp' => ?_, fun b k hb => ?_, fun b k hb hlt => ?_, fun b hb => below_iff.2 (Nat.lt_of_lt_of_le hb hle), hw.kb, hw.fb⟩, ?_⟩
  · obtain ⟨g, k1, e0, e1, e2, e3, _⟩ := get b k hb
    refine (BlkRel_ren k).1 ?_
    rw [e1]; exact e3.rel (hw.blk g k1 e2)
  · obtain ⟨i, k1, e0, e1, e2, e3, _⟩ := get b k hb
    obtain ⟨i', k1', e0', e1', e2', e3', _⟩ := get b' k' hb'
    rw [← place_ren, e1, e3.place] at hp
    rw [← place_ren, e1', e3'.place] at hp'
    have := hw.inj i i' k1 k1' g e2 e2' hp hp'
    subst this
    exact idsOk_inj hids b b' i e0 e0'
  · obtain ⟨i, k1, e0, e1, e2, e3, e4⟩ := get b k hb
    refine ⟨below_iff.2 ?_, e4⟩
    rw [lheap_get0] at hb; exact (List.getElem?_eq_some_iff.1 hb).1
  · obtain ⟨i, k1, e0, e1, e2, e3, e4⟩ := get b k hb
    rw [hpre b hlt] at e0; cases e0
    exact hw.dm b k1 e2 hlt
  · have hs : ∀ b, b < Hs.length → sig ids nx1 b = b := fun b hb => hσ b b (hpre b hb)
    refine ⟨⟨hl.s.k, fun b hb => ?_, fun b hb => ?_⟩, hl.f, hl.kf, hl.sz, fun b hb hd => ?_, hl.io⟩
    · simp only [Cx.pull, hs b (below_iff.1 hb)]; exact hl.s.ρ b hb
    · simp only [Cx.pull, hs b (below_iff.1 hb)]; exact hl.s.τ b hb
    · simp only [Cx.pull, hs b hb]; exact hl.τ0 b hb hd

theorem DoneS.done {Hs Hs' : List Blk} {d1 d : D} {H1 : Heap} {nx1 : Nat} (h : DoneS Hs d1 H1 nx1 d Hs') : DoneLe Hs d1 H1 nx1 d Hs' :=
  ⟨by obtain ⟨_, _, _, _, _, _, h⟩ := h; exact h, fun _ _ _ _ _ _ _ hr hw hl => h.le hr hw hl⟩

theorem DoneLe.mk {Hs : List Blk} {d1 : D} {H1 : Heap} {nx1 : Nat} {d : D} {Hs' : List Blk} (ids : List Nat) (h1 : idsOk nx1 ids = true) (h2 : ids.take Hs.length = List.range Hs.length)
    (h3 : ldHeap H1 (sig ids nx1) (below Hs'.length) ids Hs') (h4 : DLe d1 (d.ren (sig ids nx1))) (h5 : d.under (below Hs'.length) = true) (h6 : Nat.ble Hs.length Hs'.length = true) : DoneLe Hs d1 H1 nx1 d Hs' :=
  (DoneS.mk ids h1 h2 h3 h4 h5 h6).done

theorem DoneLe.pure {d1 d : D} {H1 : Heap} {nx1 : Nat} (h : DLe d1 d) (hd : ∀ σ, d.ren σ = d) (hu : d.under (below 0) = true) : DoneLe [] d1 H1 nx1 d [] := (DoneS.pure h hd hu).done

theorem DoneLe.p {x y : Pd} {H1 : Heap} {nx1 : Nat} (h : x = y) : DoneLe [] (.p x) H1 nx1 (.p y) [] := DoneLe.pure (DLe.p h) (fun _ => rfl) rfl

def argSlots : Nat → List D → Tmps
  | _, [] => fun _ => .junk
  | n, d :: ds => upd (argSlots (n + 1) ds) n d

theorem argSlots_get : ∀ (ds : List D) (n t : Nat), argSlots n ds t = if n ≤ t then ds.getD (t - n) .junk else .junk
  | [], n, t => by simp [argSlots]
  | d :: ds, n, t => by
    simp only [argSlots]
    by_cases e : t = n
    · subst e; simp [upd_same]
    · rw [upd_ne _ _ e, argSlots_get ds (n + 1) t]
      by_cases h : n ≤ t
      · rw [if_pos (by omega), if_pos h, show t - n = (t - (n + 1)) + 1 by omega]; simp
      · rw [if_neg (by omega), if_neg h]

theorem AC.body {P : Program} {T : Ty} (hT : TyOk P T) (hm : P.follows .mixedOrders = true) {f : Nat} {ds : List D} {Hs Hs' : List Blk} {d : D} {fn : Func} {code : Code} (hf : P.funcs[f]? = some fn)
    (hb : fn.body = some code) (hn : (fn.name == "runtime.NumGoroutine") = false) (hok : codeOk fn.ntmps code = true) (hl : Nat.ble ds.length fn.ntmps = true) (hu : underL (below Hs.length) ds = true)
    (hk : Nat.ble Hs.length Hs'.length = true) (h : aexec P T Hs.length code (argSlots 0 ds) (lheap 0 Hs) Hs.length (retP T fn.results.toList fun d1 H1 nx1 => DoneLe Hs d1 H1 nx1 d Hs')) : AC P f ds Hs d Hs' := by
  refine ⟨⟨fn, hf, by simp [hb], hn⟩, Nat.le_of_ble_eq_true hk, fun F c w vs hr hw => ?_⟩
  have hlv := RdL_len hr
  have hl : ds.length ≤ fn.ntmps := Nat.le_of_ble_eq_true hl
  refine calls_of_wp hf hb ?_
  have hrel : Rel fn.ntmps Hs.length (dom (lheap 0 Hs)) (argSlots 0 ds) (lheap 0 Hs) (below Hs.length) c F { tmps := vs.toArray ++ Array.replicate (fn.ntmps - vs.toArray.size) undef, defers := [] } w := by
    refine ⟨rfl, by simp; omega, fun t => ?_, fun t => ?_, hw⟩
    · rw [argSlots_get]
      simp only [Nat.zero_le, if_true, Nat.sub_zero]
      by_cases ht : t < ds.length
      · obtain ⟨v, hv, hrd⟩ := RdL_get hr (j := t) (d := ds.getD t .junk) (by simp [List.getD_eq_getElem?_getD, List.getElem?_eq_getElem ht])
        have : (vs.toArray ++ Array.replicate (fn.ntmps - vs.toArray.size) undef).getD t undef = v := by
          rw [Array.getD_eq_getD_getElem?, Array.getElem?_append_left (by simp; omega)]
          simp [hv]
        rw [this]; exact hrd
      · have : ds.getD t .junk = .junk := by simp [List.getD_eq_getElem?_getD, List.getElem?_eq_none (Nat.le_of_not_lt ht)]
        rw [this]; trivial
    · rw [argSlots_get]
      simp only [Nat.zero_le, if_true, Nat.sub_zero]
      by_cases ht : t < ds.length
      · exact underL_get hu (k := t) (by simp [List.getD_eq_getElem?_getD, List.getElem?_eq_getElem ht])
      · have : ds.getD t .junk = .junk := by simp [List.getD_eq_getElem?_getD, List.getElem?_eq_none (Nat.le_of_not_lt ht)]
        rw [this]; rfl
  have hwp := aexec_sound hT hm code (argSlots 0 ds) (lheap 0 Hs) Hs.length _ hok h c _ w hrel (Later.refl Hs.length (dom (lheap 0 Hs)) F c w)
  refine wp_mono hwp ?_
  rintro e a' w' ⟨A', H1, nx1, c', hq, hr', hl'⟩
  have fin : resK T fn.results.toList A' H1 (fun ds => DoneLe Hs (resD ds) H1 nx1 d Hs') → a'.defers = [] ∧ ∃ v, (results fn a'.tmps).run P w' = .ok v w' ∧ ∃ v' c', Ending.returned v = .returned v' ∧ d.under (below Hs'.length) = true ∧ Rd c' w' d v' ∧
      WRel Hs.length (dom (lheap 0 Hs)) (lheap 0 Hs') (below Hs'.length) c' F w' ∧ Later Hs.length (dom (lheap 0 Hs)) F c w c' w' := by
    intro hq
    obtain ⟨d1, v, h1, h2, h3, h4⟩ := results_run hT hr' (K := fun d1 => DoneLe Hs d1 H1 nx1 d Hs') hq
    obtain ⟨c2, g1, g2, g3⟩ := h1.2 _ _ _ _ _ _ _ h3 hr'.wr hl'
    have hu : d.under (below Hs'.length) = true := h1.1
    exact ⟨hr'.dn, v, h4, v, c2, rfl, hu, g1, g2, g3⟩
  cases e with
  | normal => exact fin hq
  | ret => exact fin hq
  | _ => simp [retP, stuckP] at hq

def wl (σ : Nat → Nat) : Nat → List Blk → List (Nat × Blk)
  | _, [] => []
  | n, b :: bs => (σ n, b.ren σ) :: wl σ (n + 1) bs

theorem wl_mem {σ : Nat → Nat} : ∀ {bs : List Blk} {n : Nat} {x : Nat × Blk}, x ∈ wl σ n bs → ∃ j b, bs[j]? = some b ∧ x = (σ (n + j), b.ren σ)
  | [], n, x, h => by simp [wl] at h
  | b :: bs, n, x, h => by
    simp only [wl, List.mem_cons] at h
    rcases h with rfl | h
    · exact ⟨0, b, rfl, rfl⟩
    · obtain ⟨j, b', h1, h2⟩ := wl_mem h
      exact ⟨j + 1, b', by simpa using h1, by rw [h2, show n + 1 + j = n + (j + 1) by omega]⟩

/-- setting a list of blocks with ids that differ. -/
theorem hsets_wl {σ : Nat → Nat} {H : Heap} : ∀ (bs : List Blk) (n : Nat) (H : Heap), (∀ a b, n ≤ a → n ≤ b → a < n + bs.length → b < n + bs.length → σ a = σ b → a = b) →
    (∀ j b, bs[j]? = some b → hsets H (wl σ n bs) (σ (n + j)) = some (b.ren σ)) ∧ (∀ g, (∀ j, j < bs.length → σ (n + j) ≠ g) → hsets H (wl σ n bs) g = H g)
  | [], n, H, _ => ⟨fun j b h => by simp at h, fun g _ => rfl⟩
  | b :: bs, n, H, hi => by
    obtain ⟨h1, h2⟩ := hsets_wl (H := H) bs (n + 1) (hset H (σ n) (b.ren σ)) fun a b ha hb ha' hb' => hi a b (by omega) (by omega) (by simp; omega) (by simp; omega)
    refine ⟨fun j b' hj => ?_, fun g hg => ?_⟩
    · simp only [wl, hsets]
      cases j with
      | zero =>
        simp at hj; subst hj
        rw [h2 (σ (n + 0)) fun j hj e => by
          have := hi (n + 1 + j) (n + 0) (by omega) (by omega) (by simp; omega) (by simp) e
          omega]
        exact hset_same _ _ _
      | succ j =>
        simp at hj
        rw [show n + (j + 1) = n + 1 + j by omega]; exact h1 j b' hj
    · simp only [wl, hsets]
      rw [h2 g fun j hj => by
        have := hg (j + 1) (by simp; omega)
        rwa [show n + (j + 1) = n + 1 + j by omega] at this]
      exact hset_ne _ _ fun e => hg 0 (by simp) (by simpa using e.symm)

/-- the inverse of sig. -/
def unsig (ids : List Nat) (V : Ids) (nx : Nat) (g : Nat) : Option Nat := match V g with
  | true => ids.idxOf? g
  | false => some (ids.length + (g - nx))

theorem unsig_in {ids : List Nat} {V : Ids} {nx : Nat} (h : idsOk nx ids = true) (hV : ∀ g ∈ ids, V g = true) {b g : Nat} (hb : ids[b]? = some g) : unsig ids V nx g = some b := by
  have hm := List.mem_of_getElem? hb
  simp only [unsig, hV g hm]
  cases hq : ids.idxOf? g with
  | none => exact absurd hm (List.idxOf?_eq_none_iff.1 hq)
  | some j =>
    rw [List.idxOf?, List.findIdx?_eq_some_iff_getElem] at hq
    obtain ⟨hj, h1, _⟩ := hq
    have : ids[j]? = some g := by rw [List.getElem?_eq_getElem hj]; simpa using h1
    rw [idsOk_inj h j b g this hb]

theorem unsig_new {ids : List Nat} {V : Ids} {nx b : Nat} (h : ids.length ≤ b) (hV : V (nx + (b - ids.length)) = false) : unsig ids V nx (nx + (b - ids.length)) = some b := by
  simp only [unsig, hV]
  congr 1; omega

theorem unsig_none {ids : List Nat} {V : Ids} {nx g : Nat} (h : V g = true) (hn : g ∉ ids) : unsig ids V nx g = none := by
  simp only [unsig, h]
  exact List.idxOf?_eq_none_iff.2 hn

theorem sig_inj {ids : List Nat} {nx : Nat} (h : idsOk nx ids = true) {a b : Nat} (e : sig ids nx a = sig ids nx b) : a = b := by
  unfold sig at e
  cases ha : ids[a]? with
  | none =>
    have la : ids.length ≤ a := List.getElem?_eq_none_iff.1 ha
    cases hb : ids[b]? with
    | none =>
      have lb : ids.length ≤ b := List.getElem?_eq_none_iff.1 hb
      simp only [ha, hb] at e
      omega
    | some g =>
      have := idsOk_lt h g (List.mem_of_getElem? hb)
      simp only [ha, hb] at e
      omega
  | some g =>
    have := idsOk_lt h g (List.mem_of_getElem? ha)
    cases hb : ids[b]? with
    | none => simp only [ha, hb] at e; omega
    | some g' =>
      simp only [ha, hb] at e
      subst e
      exact idsOk_inj h a b g ha hb

attribute [irreducible] DoneLe AC

end Qa

namespace Qa
open Go

theorem AC.out {P : Program} {f : Nat} {ds args : List D} {Hs Hs' : List Blk} {d : D} (h : AC P f ds Hs d Hs') (ids : List Nat) {nx : Nat} (hids : idsOk nx ids = true) {H : Heap} {V : Ids}
    (hargs : DLeL args (renL (sig ids nx) ds)) (hH : ldHeap H (sig ids nx) (below Hs.length) ids Hs) (hfr : ∀ b, nx ≤ b → b < nx + (Hs'.length - Hs.length) → V b = false) :
    CallOut P f args H V (d.ren (sig ids nx)) (hsets H (wl (sig ids nx) 0 Hs')) (iups V nx (nx + (Hs'.length - Hs.length))) := by
  unfold AC at h
  obtain ⟨hfn, hk, h⟩ := h
  refine ⟨hfn, iups_le _ _ _, fun n0 d0 F c w vs hr _ hw => ?_⟩
  have hlen := ldHeap_len hH
  have sinj : ∀ a b, sig ids nx a = sig ids nx b → a = b := fun a b e => sig_inj hids e
  have hσ : ∀ b g, ids[b]? = some g → sig ids nx b = g := fun b g e => by simp [sig, e]
  have hσlt : ∀ b, b < Hs.length → ∃ g, ids[b]? = some g ∧ sig ids nx b = g ∧ g < nx := fun b hb => by
    have hg : ids[b]? = some (ids[b]'(by omega)) := List.getElem?_eq_getElem (by omega)
    exact ⟨_, hg, hσ b _ hg, idsOk_lt hids _ (List.mem_of_getElem? hg)⟩
  have hinV : ∀ g ∈ ids, V g = true := fun g hg => by
    obtain ⟨b, hb⟩ := List.getElem?_of_mem hg
    have hlt := (List.getElem?_eq_some_iff.1 hb).1
    obtain ⟨k1, e1, _⟩ := ldHeap_get hH b g (Hs[b]'(by omega)) hb (List.getElem?_eq_getElem (by omega))
    exact (hw.bh g k1 e1).1
  have hσge : ∀ b, Hs.length ≤ b → sig ids nx b = nx + (b - Hs.length) := fun b hb => by
    have : ids[b]? = none := List.getElem?_eq_none_iff.2 (by omega)
    simp [sig, this, hlen]
  have get : ∀ b k, lheap 0 Hs b = some k → ∃ g k1, ids[b]? = some g ∧ sig ids nx b = g ∧ H g = some k1 ∧ BLe k1 (k.ren (sig ids nx)) ∧ k.under (below Hs.length) = true := fun b k hb => by
    rw [lheap_get0] at hb
    have hlt := (List.getElem?_eq_some_iff.1 hb).1
    have hg : ids[b]? = some (ids[b]'(by omega)) := List.getElem?_eq_getElem (by omega)
    obtain ⟨k1, e1, e2, e3⟩ := ldHeap_get hH b _ k hg hb
    exact ⟨_, k1, hg, hσ b _ hg, e1, e2, e3⟩
  -- the callee's view
  let F' : Nat → Prop := fun g => F g ∨ ∃ b k, b ∉ ids ∧ H b = some k ∧ place c b k = some g
  have hw0 : WRel Hs.length (dom (lheap 0 Hs)) (lheap 0 Hs) (below Hs.length) (c.pull (sig ids nx)) F' w := by
    refine ⟨fun b k hb => ?_, fun b b' k k' g hb hb' hp hp' => ?_, fun b k hb => ?_, fun b k hb _ => ?_, fun b hb => below_iff.2 hb, hw.kb, fun g hg => ?_⟩
    · obtain ⟨g, k1, e0, e1, e2, e3, _⟩ := get b k hb
      refine (BlkRel_ren k).1 ?_
      rw [e1]
      have hb1 := e3.rel (hw.blk g k1 e2)
      -- the frame grows by blocks that lie elsewhere
      have hne : ∀ g', place c g (k.ren (sig ids nx)) = some g' → ¬ F' g' := by
        intro g' hp hf
        rcases hf with hf | ⟨b', k', hb', hk', hp'⟩
        · exact (hb1.place_lt hp).2 hf
        · rw [e3.place] at hp
          have := hw.inj g b' k1 k' g' e2 hk' hp hp'
          subst this
          exact hb' (List.mem_of_getElem? e0)
      cases hkk : k.ren (sig ids nx) with
      | cells e cs =>
        rw [hkk] at hb1 hne
        obtain ⟨vs, h1, h2, h3, h4, h5⟩ := hb1
        exact ⟨vs, h1, h2, h3, hne _ rfl, h5⟩
      | map kd m =>
        rw [hkk] at hb1 hne
        obtain ⟨arr, clock, h1, h2, h3, h4⟩ := hb1
        exact ⟨arr, clock, h1, h2, hne _ rfl, h4⟩
      | tok e sz n =>
        rw [hkk] at hb1 hne
        obtain ⟨p, h1, h2⟩ := hb1
        refine ⟨p, h1, ?_⟩
        cases p with
        | none => exact h2
        | some q =>
          obtain ⟨g', cap⟩ := q
          obtain ⟨cur, a1, a2, a3, a4, a5, a6⟩ := h2
          exact ⟨cur, a1, a2, a3, a4, hne g' (by simp [place, h1]), a6⟩
      | vec e sz ver xs =>
        rw [hkk] at hb1 hne
        obtain ⟨p, h1, h2⟩ := hb1
        refine ⟨p, h1, ?_⟩
        cases p with
        | none => exact h2
        | some q =>
          obtain ⟨g', cap⟩ := q
          obtain ⟨cur, a1, a2, a3, a4, a5, a6⟩ := h2
          exact ⟨cur, a1, a2, a3, a4, hne g' (by simp [place, h1]), a6⟩
    · obtain ⟨i, k1, e0, e1, e2, e3, _⟩ := get b k hb
      obtain ⟨i', k1', e0', e1', e2', e3', _⟩ := get b' k' hb'
      rw [← place_ren, e1, e3.place] at hp
      rw [← place_ren, e1', e3'.place] at hp'
      have := hw.inj i i' k1 k1' g e2 e2' hp hp'
      subst this
      exact idsOk_inj hids b b' i e0 e0'
    · obtain ⟨i, k1, e0, e1, e2, e3, e4⟩ := get b k hb
      refine ⟨below_iff.2 ?_, e4⟩
      rw [lheap_get0] at hb; exact (List.getElem?_eq_some_iff.1 hb).1
    · intro e; rw [e] at hb; cases hb
    · rcases hg with hg | ⟨b, k, _, hb, hp⟩
      · exact hw.fb g hg
      · exact ((hw.blk b k hb).place_lt hp).1
  have hra : RdL (c.pull (sig ids nx)) w ds vs := (Rd_renL ds vs).1 (hargs.rd hr)
  refine (h F' (c.pull (sig ids nx)) w vs hra hw0).mono ?_
  rintro e w' ⟨v, c', rfl, hd, hrd, hw', hl⟩
  let c2 : Cx := ⟨fun g => match unsig ids V nx g with | some b => c'.ρ b | none => c.ρ g, fun g => match unsig ids V nx g with | some b => c'.τ b | none => c.τ g, c'.K⟩
  have hun : ∀ b, b < Hs'.length → unsig ids V nx (sig ids nx b) = some b := fun b hb => by
    by_cases hlt : b < Hs.length
    · obtain ⟨g, hg0, e, hg⟩ := hσlt b hlt
      rw [e]; exact unsig_in hids hinV hg0
    · rw [hσge b (by omega)]
      have hV := hfr (nx + (b - Hs.length)) (by omega) (by omega)
      rw [← hlen] at hV ⊢
      exact unsig_new (by omega) hV
  have s2 : Step (below Hs'.length) c' w' (c2.pull (sig ids nx)) w' := ⟨KStep.refl _ _, fun b hb => by
    have := hun b (below_iff.1 hb)
    simp only [Cx.pull, c2, this], fun b hb => by
    have := hun b (below_iff.1 hb)
    simp only [Cx.pull, c2, this]; exact tgrow.refl _⟩
  have s2τ : ∀ b, b < Hs'.length → (c2.pull (sig ids nx)).τ b = c'.τ b := fun b hb => by
    have := hun b hb
    simp only [Cx.pull, c2, this]
  have hplace : ∀ b k, b < Hs'.length → place c2 (sig ids nx b) (k.ren (sig ids nx)) = place c' b k := fun b k hb => by
    rw [place_ren]
    exact place_mono (s2.ρ b (below_iff.2 hb)) (s2τ b hb)
  have hnew : ∀ b, below Hs'.length b = true → iups V nx (nx + (Hs'.length - Hs.length)) (sig ids nx b) = true := fun b hb => by
    rw [below_iff] at hb
    by_cases hlt : b < Hs.length
    · obtain ⟨g, hg0, e, hg⟩ := hσlt b hlt
      rw [e]; exact iups_iff.2 (.inr (hinV g (List.mem_of_getElem? hg0)))
    · rw [hσge b (by omega)]; exact iups_iff.2 (.inl (by omega))
  have hout : ∀ g, V g = true → g ∉ ids → c2.ρ g = c.ρ g ∧ c2.τ g = c.τ g := fun g h1 h2 => by
    simp only [c2, unsig_none h1 h2]
    exact ⟨trivial, trivial⟩
  have hin : ∀ b g, ids[b]? = some g → c2.ρ g = c'.ρ b ∧ c2.τ g = c'.τ b := fun b g hb => by
    have : unsig ids V nx g = some b := unsig_in hids hinV hb
    simp only [c2, this]
    exact ⟨trivial, trivial⟩
  have s1 : Step V c w c2 w' := by
    refine ⟨hl.s.k, fun g hg => ?_, fun g hg => ?_⟩
    · by_cases hm : g ∈ ids
      · obtain ⟨b, hb⟩ := List.getElem?_of_mem hm
        have hlt := (List.getElem?_eq_some_iff.1 hb).1
        rw [(hin b g hb).1, hl.s.ρ b (below_iff.2 (by omega))]
        simp only [Cx.pull, hσ b g hb]
      · exact (hout g hg hm).1
    · by_cases hm : g ∈ ids
      · obtain ⟨b, hb⟩ := List.getElem?_of_mem hm
        have hlt := (List.getElem?_eq_some_iff.1 hb).1
        rw [(hin b g hb).2]
        have := hl.s.τ b (below_iff.2 (by omega))
        simpa only [Cx.pull, hσ b g hb] using this
      · rw [(hout g hg hm).2]; exact tgrow.refl _
  obtain ⟨hs1, hs2⟩ := hsets_wl (σ := sig ids nx) (H := H) Hs' 0 H fun a b _ _ _ _ e => sinj a b e
  simp only [Nat.zero_add] at hs1 hs2
  -- a block behind the call: the callee's, or one of the frame
  have split : ∀ g k, hsets H (wl (sig ids nx) 0 Hs') g = some k → (∃ b kb, Hs'[b]? = some kb ∧ g = sig ids nx b ∧ k = kb.ren (sig ids nx)) ∨ (H g = some k ∧ g ∉ ids ∧ V g = true) := by
    intro g k hg
    by_cases hex : ∃ j, j < Hs'.length ∧ sig ids nx j = g
    · obtain ⟨j, hj, rfl⟩ := hex
      left
      have := hs1 j _ (List.getElem?_eq_getElem hj)
      rw [hg] at this
      exact ⟨j, _, List.getElem?_eq_getElem hj, rfl, Option.some.inj this⟩
    · right
      have : ∀ j, j < Hs'.length → sig ids nx j ≠ g := fun j hj e => hex ⟨j, hj, e⟩
      rw [hs2 g this] at hg
      refine ⟨hg, fun hm => ?_, (hw.bh g k hg).1⟩
      obtain ⟨b, hb⟩ := List.getElem?_of_mem hm
      have hlt := (List.getElem?_eq_some_iff.1 hb).1
      exact this b (by omega) (hσ b g hb)
  have blkNew : ∀ b kb, Hs'[b]? = some kb → BlkRel c2 F' w' (sig ids nx b) (kb.ren (sig ids nx)) := fun b kb hb => by
    refine (BlkRel_ren kb).2 ?_
    have hb0 : lheap 0 Hs' b = some kb := by rw [lheap_get0]; exact hb
    have hlt := (List.getElem?_eq_some_iff.1 hb).1
    exact (hw'.blk b kb hb0).mono s2 (below_iff.2 hlt) (hw'.bh b kb hb0).2 (fun _ _ => rfl) (fun _ _ _ hk => hk) (s2τ b hlt)
  have weak : ∀ {b k}, BlkRel c2 F' w' b k → BlkRel c2 F w' b k := by
    intro b k hb
    cases k with
    | cells e cs =>
      obtain ⟨vs, h1, h2, h3, h4, h5⟩ := hb
      exact ⟨vs, h1, h2, h3, fun hf => h4 (.inl hf), h5⟩
    | tok e sz n =>
      obtain ⟨p, h1, h2⟩ := hb
      refine ⟨p, h1, ?_⟩
      cases p with
      | none => exact h2
      | some q =>
        obtain ⟨g', cap⟩ := q
        obtain ⟨cur, a1, a2, a3, a4, a5, a6⟩ := h2
        exact ⟨cur, a1, a2, a3, a4, fun hf => a5 (.inl hf), a6⟩
    | vec e sz ver xs =>
      obtain ⟨p, h1, h2⟩ := hb
      refine ⟨p, h1, ?_⟩
      cases p with
      | none => exact h2
      | some q =>
        obtain ⟨g', cap⟩ := q
        obtain ⟨cur, a1, a2, a3, a4, a5, a6⟩ := h2
        exact ⟨cur, a1, a2, a3, a4, fun hf => a5 (.inl hf), a6⟩
    | map kd m =>
      obtain ⟨arr, clock, h1, h2, h3, h4⟩ := hb
      exact ⟨arr, clock, h1, h2, fun hf => h3 (.inl hf), h4⟩
  have placeOld : ∀ g k, g ∉ ids → V g = true → place c2 g k = place c g k := fun g k h1 h2 => place_mono (hout g h2 h1).1 (hout g h2 h1).2
  refine ⟨v, c2, rfl, under_ren hnew d hd, (Rd_ren d v).2 (Rd.mono s2 d v hd hrd), ⟨fun g k hg => ?_, fun g g' k k' x hg hg' hp hp' => ?_, fun g k hg => ?_, fun g k hg hlt => ?_, fun b hb => iups_le _ _ _ b (hw.n0 b hb), hw'.kb,
    fun g hg => Nat.lt_of_lt_of_le (hw.fb g hg) hl.sz⟩, s1, ⟨s1.le hw.le0, fun g hg => hl.f g (.inl hg), fun g o hk => (hl.kf g o hk).imp id fun hn hf => hn (.inl hf), hl.sz, fun b hb hd => ?_, hl.io⟩⟩
  · rcases split g k hg with ⟨b, kb, hb, rfl, rfl⟩ | ⟨hg, hm, hlt⟩
    · exact weak (blkNew b kb hb)
    · exact (hw.blk g k hg).mono s1 hlt (hw.bh g k hg).2 (fun x hp => hl.f x (.inr ⟨g, k, hm, hg, hp⟩)) (fun x o hp hk => (hl.kf x o hk).resolve_right fun hn => hn (.inr ⟨g, k, hm, hg, hp⟩)) (hout g hlt hm).2
  · rcases split g k hg with ⟨b, kb, hb, rfl, rfl⟩ | ⟨hg, hm, hlt⟩ <;> rcases split g' k' hg' with ⟨b', kb', hb', rfl, rfl⟩ | ⟨hg', hm', hlt'⟩
    · rw [hplace b kb (List.getElem?_eq_some_iff.1 hb).1] at hp
      rw [hplace b' kb' (List.getElem?_eq_some_iff.1 hb').1] at hp'
      rw [hw'.inj b b' kb kb' x (by rw [lheap_get0]; exact hb) (by rw [lheap_get0]; exact hb') hp hp']
    · rw [placeOld _ _ hm' hlt'] at hp'
      exact absurd (.inr ⟨g', k', hm', hg', hp'⟩) ((blkNew b kb hb).place_lt hp).2
    · rw [placeOld _ _ hm hlt] at hp
      exact absurd (.inr ⟨g, k, hm, hg, hp⟩) ((blkNew b' kb' hb').place_lt hp').2
    · rw [placeOld _ _ hm hlt] at hp
      rw [placeOld _ _ hm' hlt'] at hp'
      exact hw.inj g g' k k' x hg hg' hp hp'
  · rcases split g k hg with ⟨b, kb, hb, rfl, rfl⟩ | ⟨hg, hm, hlt⟩
    · have hlt := (List.getElem?_eq_some_iff.1 hb).1
      refine ⟨hnew b (below_iff.2 hlt), ?_⟩
      have hu := (hw'.bh b kb (by rw [lheap_get0]; exact hb)).2
      cases kb with
      | cells e cs => simp only [Blk.ren, Blk.under] at hu ⊢; exact underL_ren hnew cs hu
      | tok e sz n => rfl
      | vec e sz ver xs => rfl
      | map kd m => rfl
    · exact ⟨iups_le _ _ _ g (hw.bh g k hg).1, Blk.under_le (iups_le _ _ _) k (hw.bh g k hg).2⟩
  · rcases split g k hg with ⟨b, kb, hb, rfl, rfl⟩ | ⟨hg, hm, _⟩
    · by_cases hbl : b < Hs.length
      · obtain ⟨g, e0, e1, _⟩ := hσlt b hbl
        obtain ⟨g', k1, e0', e1', e2, _⟩ := get b (Hs[b]) (by rw [lheap_get0]; exact List.getElem?_eq_getElem hbl)
        rw [e0] at e0'; cases e0'
        rw [e1] at hlt ⊢
        exact hw.dm g k1 e2 hlt
      · have hbl2 := (List.getElem?_eq_some_iff.1 hb).1
        have hV := hfr (nx + (b - Hs.length)) (by omega) (by omega)
        rw [← hσge b (by omega)] at hV
        rw [hw.n0 _ hlt] at hV; cases hV
    · exact hw.dm g k hg hlt
  · have hbn : V b = true := hw.n0 b hb
    by_cases hm : b ∈ ids
    · obtain ⟨j, hj⟩ := List.getElem?_of_mem hm
      have hlt := (List.getElem?_eq_some_iff.1 hj).1
      obtain ⟨g', k1, e0', e1', e2, _⟩ := get j (Hs[j]'(by omega)) (by rw [lheap_get0]; exact List.getElem?_eq_getElem (by omega))
      rw [hj] at e0'; cases e0'
      exact absurd (hw.dm b k1 e2 hb) hd
    · exact (hout b hbn hm).2

/-- the walk at a call. -/
theorem AC.call {P : Program} {f : Nat} {ds args : List D} {Hs Hs' : List Blk} {d : D} {H : Heap} {nx : Nat} {K : D → Heap → Nat → Fp → Prop} (h : AC P f ds Hs d Hs') (ids : List Nat) (hids : idsOk nx ids = true)
    (hargs : DLeL args (renL (sig ids nx) ds)) (hH : ldHeap H (sig ids nx) (below Hs.length) ids Hs)
    (hk : K (d.ren (sig ids nx)) (hsets H (wl (sig ids nx) 0 Hs')) (nx + (Hs'.length - Hs.length)) ⟨ids, (wl (sig ids nx) 0 Hs').map (·.1)⟩) : callP P f args H nx K := by
  unfold callP
  refine ⟨_, wl (sig ids nx) 0 Hs', _, ids, Nat.le_add_right _ _, fun H2 V hH2 hfr => ?_, hk⟩
  refine AC.out h ids hids hargs ?_ hfr
  have key : ∀ (l : List Nat) (bs : List Blk), (∀ b ∈ l, H2 b = H b) → ldHeap H (sig ids nx) (below Hs.length) l bs → ldHeap H2 (sig ids nx) (below Hs.length) l bs := by
    intro l
    induction l with
    | nil => intro bs _ hb; cases bs with | nil => exact hb | cons y bs => exact hb.elim
    | cons x l ih =>
      intro bs he hb
      cases bs with
      | nil => exact hb
      | cons y bs =>
        obtain ⟨⟨k, h1, h2⟩, h3⟩ := hb
        exact ⟨⟨k, by rw [he x (by simp)]; exact h1, h2⟩, ih bs (fun b hb => he b (by simp [hb])) h3⟩
  exact key ids Hs hH2 hH

/-- a call with pure data alone. -/
theorem AC.callP {P : Program} {f : Nat} {ds args : List D} {d : D} {H : Heap} {nx : Nat} {K : D → Heap → Nat → Fp → Prop} (h : AC P f ds [] d [])
    (hargs : DLeL args (renL (sig [] nx) ds)) (hk : K (d.ren (sig [] nx)) H nx fp0) : callP P f args H nx K :=
  h.call [] rfl hargs trivial hk

end Qa

namespace Qa
open Go

theorem hdel_some {H : Heap} {b x : Nat} {k : Blk} (h : hdel H b x = some k) : x ≠ b ∧ H x = some k := by
  by_cases e : x = b
  · subst e; simp [hdel] at h
  · have : Nat.beq x b = false := by cases hb : Nat.beq x b <;> simp_all
    simp only [hdel, this] at h
    exact ⟨e, h⟩

/-- a vector's content is never changed any more. -/
theorem freeze_vec {n0 : Nat} {d0 F : Nat → Prop} {H : Heap} {nx : Ids} {c : Cx} {w : World} (hw : WRel n0 d0 H nx c F w) {b e sz ver : Nat} {xs : List Pd} (hb : H b = some (.vec e sz ver xs)) :
    ∃ c', WRel n0 d0 (hdel H b) nx c' F w ∧ Step nx c w c' w ∧ Later n0 d0 F c w c' w ∧ ∀ (lo n : Nat) (v : Value), lo + n ≤ xs.length → Rd c w (.vec b ver sz lo n) v → Rd c' w (.p (.list ((xs.drop lo).take n))) v := by
  obtain ⟨p, hp, hq⟩ := hw.blk b _ hb
  cases p with
  | none =>
    have hq : xs = [] := hq
    subst hq
    refine ⟨c, ⟨fun x k hx => hw.blk x k (hdel_some hx).2, fun x x' k k' g hx hx' => hw.inj x x' k k' g (hdel_some hx).2 (hdel_some hx').2, fun x k hx => hw.bh x k (hdel_some hx).2, fun x k hx => hw.dm x k (hdel_some hx).2, hw.n0, hw.kb, hw.fb⟩,
      Step.refl _ _ _, Later.refl _ _ _ _ _, fun lo n v hle hv => ?_⟩
    obtain ⟨_, _, hv⟩ := (hv.2 _ _ hp).2 rfl
    subst hv
    simp
    exact .nil
  | some q =>
    obtain ⟨g, cap⟩ := q
    obtain ⟨cur, hg, hvr, hcm, hcs, hnF, hnK⟩ := hq
    have hpl : place c b (.vec e sz ver xs) = some g := by simp [place, hp]
    let c' : Cx := { c with K := fun g' o => c.K g' o ∨ (g' = g ∧ o < xs.length * sz) }
    have hs : ∀ V, Step V c w c' w := fun V => ⟨fun g o hk => ⟨.inl hk, fun _ h => h⟩, fun _ _ => rfl, fun _ _ => tgrow.refl _⟩
    have hother : ∀ x k g', x ≠ b → H x = some k → place c x k = some g' → g' ≠ g := fun x k g' hx hk hp' e => by
      subst e; exact hx (hw.inj x b k _ g' hk hb hp' hpl)
    have hn := hvr.n
    refine ⟨c', ⟨fun x k hx => ?_, fun x x' k k' g' hx hx' hp hp' => ?_, fun x k hx => hw.bh x k (hdel_some hx).2, fun x k hx => hw.dm x k (hdel_some hx).2, hw.n0, fun g' o hk => ?_, hw.fb⟩, hs _,
      ⟨hs _, fun _ _ => rfl, fun g' o hk => ?_, Nat.le_refl _, fun _ _ _ => rfl, SameIO.refl _⟩, fun lo n v hle hv => ?_⟩
    · obtain ⟨hne, hx⟩ := hdel_some hx
      obtain ⟨hlt, hun⟩ := hw.bh x k hx
      refine (hw.blk x k hx).mono (hs nx) hlt hun (fun _ _ => rfl) (fun g' o hp' hk => ?_) rfl
      rcases hk with hk | ⟨h, _⟩
      · exact hk
      · exact absurd h (hother x k g' hne hx hp')
    · exact hw.inj x x' k k' g' (hdel_some hx).2 (hdel_some hx').2 hp hp'
    · rcases hk with hk | ⟨rfl, _⟩
      · exact hw.kb g' o hk
      · exact (Array.getElem?_eq_some_iff.1 hg).1
    · rcases hk with hk | ⟨rfl, _⟩
      · exact .inl hk
      · exact .inr hnF
    · have hlen : ((xs.drop lo).take n).length = n := by simp; omega
      obtain ⟨o, rfl, ho, hlc⟩ := (hv.2 _ _ hp).2 rfl
      have hle' : (lo + n) * sz ≤ xs.length * sz := Nat.mul_le_mul_right _ hle
      rw [Nat.add_mul] at hle'
      have key : ∀ (i : Nat) (y : Pd) (j : Nat) (q : Pd), ((xs.drop lo).take n)[i]? = some y → y.cells[j]? = some q → o = lo * sz ∧ i * sz + j < n * sz ∧ ∃ u, cur[lo * sz + (i * sz + j)]? = some u ∧ Rp c.K w q u := by
        intro i y j q hy hq
        have hi : i < n := by have := (List.getElem?_eq_some_iff.1 hy).1; omega
        rw [List.getElem?_take, if_pos hi, List.getElem?_drop] at hy
        obtain ⟨u, hu, hr⟩ := hvr.r (lo + i) y j q hy hq
        have hj : j < sz := by rw [← hvr.s y (List.mem_of_getElem? hy)]; exact (List.getElem?_eq_some_iff.1 hq).1
        have : (i + 1) * sz ≤ n * sz := Nat.mul_le_mul_right _ hi
        rw [Nat.add_mul, Nat.one_mul] at this
        exact ⟨ho (by omega), by omega, u, by rw [← hu, Nat.add_mul]; congr 1; omega, hr⟩
      have hR := Rp.list (K := c'.K) (w := w) g o (cap - lo) sz ((xs.drop lo).take n) (fun t => (cur[lo * sz + t]?).getD undef) (by omega) (fun i x hx => hvr.s x (List.mem_of_mem_drop (List.mem_of_mem_take (List.mem_of_getElem? hx))))
        (fun i x j q hx hq => by
          obtain ⟨e1, e2, u, hu, _⟩ := key i x j q hx hq
          subst e1
          have hcell : w.cell? ⟨g, lo * sz + i * sz + j, none⟩ = some u := by rw [cell_of_row w g _ _ _ _ hg, Nat.add_assoc]; exact hu
          refine ⟨.inr ⟨rfl, by omega⟩, ?_, ?_⟩
          · rw [hcell, hu]; rfl
          · rw [hu]; exact hvr.one _ u (by omega) hu)
        (fun i x j q hx hq => by
          obtain ⟨e1, e2, u, hu, hr⟩ := key i x j q hx hq
          rw [hu]
          exact hr.mono (hs nx).k)
      rw [hlen] at hR
      exact hR

theorem DoneLe.freeze {Hs Hs' : List Blk} {d : D} {H1 : Heap} {nx1 b e sz ver lo n : Nat} {xs : List Pd} (hb : H1 b = some (.vec e sz ver xs)) (hle : lo + n ≤ xs.length)
    (h : DoneLe Hs (.p (.list ((xs.drop lo).take n))) (hdel H1 b) nx1 d Hs') : DoneLe Hs (.vec b ver sz lo n) H1 nx1 d Hs' := by
  unfold DoneLe at h ⊢
  refine ⟨h.1, fun d0 F c0 c w0 w v hr hw hl => ?_⟩
  obtain ⟨c', h1, h2, h3, h4⟩ := freeze_vec hw hb
  exact h.2 d0 F c0 c' w0 w v (h4 lo n v hle hr) h1 (hl.trans h3)

end Qa

namespace Qa
open Go

def fieldsOk (P : Program) : List (Nat × Nat) → List Field → Bool
  | [], [] => true
  | (off, sz) :: r, f :: fs => f.offset == off && (match P.info? f.type with | some i => i.size == sz | none => false) && fieldsOk P r fs
  | _, _ => false

def tiOk (P : Program) (t : TypeId) (ti : TI) : Bool :=
  match ti.d with
  | .bad => true
  | d =>
    (match P.info? t with
      | some f => f.size == ti.size && (match f.zero with | some z => vEqL ti.zero z.cells.toList && ti.zero.length == ti.size && zagg ti z | none => false)
      | none => false) &&
    (match d with
      | .int k => match P.underlying t with | some (.int k') => k == k' | _ => false
      | .bool => match P.underlying t with | some .bool => true | _ => false
      | .str => match P.underlying t with | some .string => true | _ => false
      | .struct fs => match P.underlying t with | some (.struct fields) => fieldsOk P fs fields.toList | _ => false
      | .slice e sz by_ => match P.underlying t with
        | some (.slice e') => e == e' && (match P.info? e with
          | some i => i.size == sz && i.bytes == by_ && (match i.zero with | some z => z.cells.size == sz | none => false)
          | none => false)
        | _ => false
      | .arr n e sz => match P.underlying t with
        | some (.array n' e') => n == n' && e == e' && (match P.info? e with | some i => i.size == sz | none => false)
        | _ => false
      | .ptr => match P.underlying t with | some (.pointer _) => true | _ => false
      | .func => match P.underlying t with | some (.func _ _ _) => true | _ => false
      | .map k e => match P.underlying t with | some (.map k' e') => k == k' && e == e' | _ => false
      | .other => match P.underlying t with | some (.struct _) => false | some (.array _ _) => false | some _ => true | none => false
      | .bad => true)

theorem fieldsOk_spec {P : Program} : ∀ {fs : List (Nat × Nat)} {l : List Field}, fieldsOk P fs l = true → ∀ (j off sz : Nat), fs[j]? = some (off, sz) →
    ∃ f i, l[j]? = some f ∧ f.offset = off ∧ P.info? f.type = some i ∧ i.size = sz
  | [], [], _, j, _, _, h => by simp at h
  | (off, sz) :: r, f :: fs, h, 0, o, s, hj => by
    simp only [fieldsOk, Bool.and_eq_true, beq_iff_eq] at h
    simp at hj
    obtain ⟨rfl, rfl⟩ := hj
    obtain ⟨⟨h1, h2⟩, _⟩ := h
    cases hi : P.info? f.type with
    | none => simp [hi] at h2
    | some i => exact ⟨f, i, rfl, h1, hi, by simpa [hi] using h2⟩
  | (off, sz) :: r, f :: fs, h, j + 1, o, s, hj => by
    simp only [fieldsOk, Bool.and_eq_true] at h
    simp at hj
    simpa using fieldsOk_spec h.2 j o s hj
  | [], _ :: _, h, _, _, _, _ => by simp [fieldsOk] at h
  | _ :: _, [], h, _, _, _, _ => by simp [fieldsOk] at h

theorem fieldsOk_len {P : Program} : ∀ {fs : List (Nat × Nat)} {l : List Field}, fieldsOk P fs l = true → fs.length = l.length
  | [], [], _ => rfl
  | (_, _) :: r, f :: fs, h => by
    simp only [fieldsOk, Bool.and_eq_true] at h
    simpa using fieldsOk_len h.2
  | [], _ :: _, h => by simp [fieldsOk] at h
  | _ :: _, [], h => by simp [fieldsOk] at h

theorem tiOk_spec {P : Program} {t : TypeId} {ti : TI} (h : tiOk P t ti = true) : TyOk1 P t ti := by
  by_cases hb : ti.d = .bad
  · exact ⟨fun e => absurd hb e, by rw [hb]; trivial, fun e => absurd hb e⟩
  have h' : (match P.info? t with
      | some f => f.size == ti.size && (match f.zero with | some z => vEqL ti.zero z.cells.toList && ti.zero.length == ti.size && zagg ti z | none => false)
      | none => false) = true := by
    unfold tiOk at h
    cases hd : ti.d <;> simp only [hd, Bool.and_eq_true] at h <;> first | exact h.1 | exact absurd hd hb
  refine ⟨fun _ => ?_, ?_, fun _ f z hf hz => by rw [hf] at h'; simp only [hz, Bool.and_eq_true] at h'; exact h'.2.2⟩
  · split at h'
    · rename_i f hf
      simp only [Bool.and_eq_true, beq_iff_eq] at h'
      obtain ⟨h1, h2⟩ := h'
      split at h2
      · rename_i z hz
        simp only [Bool.and_eq_true, beq_iff_eq] at h2
        exact ⟨f, z, hf, h1, hz, h2.1.1, h2.1.2⟩
      · cases h2
    · cases h'
  · unfold tiOk at h
    cases hd : ti.d <;> simp only [hd, Bool.and_eq_true] at h ⊢
    case int k =>
      have h := h.2
      split at h
      · rename_i k' hu; rw [hu]; simp at h; rw [h]
      · cases h
    case bool =>
      have h := h.2
      split at h
      · assumption
      · cases h
    case str =>
      have h := h.2
      split at h
      · assumption
      · cases h
    case struct fs =>
      have h := h.2
      split at h
      · rename_i fields hu
        refine ⟨fields, hu, by have := fieldsOk_len h; simpa using this.symm, fun j off sz hj => ?_⟩
        obtain ⟨f, i, h1, h2⟩ := fieldsOk_spec h j off sz hj
        exact ⟨f, i, by simpa using h1, h2⟩
      · cases h
    case slice e sz by_ =>
      have h := h.2
      split at h
      · rename_i e' hu
        simp only [Bool.and_eq_true, beq_iff_eq] at h
        obtain ⟨rfl, h⟩ := h
        refine ⟨hu, ?_⟩
        split at h
        · rename_i i hi
          simp only [Bool.and_eq_true, beq_iff_eq] at h
          obtain ⟨⟨h1, h2⟩, h3⟩ := h
          split at h3
          · rename_i z hz; exact ⟨i, z, hi, h1, h2, hz, by simpa using h3⟩
          · cases h3
        · cases h
      · cases h
    case arr n e sz =>
      have h := h.2
      split at h
      · rename_i n' e' hu
        simp only [Bool.and_eq_true, beq_iff_eq] at h
        obtain ⟨⟨rfl, rfl⟩, h⟩ := h
        refine ⟨hu, ?_⟩
        split at h
        · rename_i i hi; exact ⟨i, hi, by simpa using h⟩
        · cases h
      · cases h
    case ptr =>
      have h := h.2
      split at h
      · rename_i e hu; exact ⟨e, hu⟩
      · cases h
    case func =>
      have h := h.2
      split at h
      · rename_i a b v hu; exact ⟨a, b, v, hu⟩
      · cases h
    case map k e =>
      have h := h.2
      split at h
      · rename_i k' e' hu
        simp only [Bool.and_eq_true, beq_iff_eq] at h
        obtain ⟨rfl, rfl⟩ := h
        exact hu
      · cases h
    case other =>
      have h := h.2
      split at h
      · cases h
      · cases h
      · rename_i d h1 h2 hu
        exact ⟨d, hu, fun fs e => h1 fs e, fun n e he => h2 n e he⟩
      · cases h

theorem tyOk_of {P : Program} {T : Ty} (n : Nat) (h : (List.range n).all (fun t => tiOk P t (T t)) = true) (h2 : ∀ t, n ≤ t → T t = { d := .bad, size := 0, zero := [] }) : TyOk P T := fun t => by
  by_cases ht : t < n
  · exact tiOk_spec (List.all_eq_true.1 h t (List.mem_range.2 ht))
  · rw [h2 t (Nat.le_of_not_lt ht)]
    exact ⟨fun e => absurd rfl e, trivial, fun e => absurd rfl e⟩

/-- a type whose slices are built to be changed (2), or grow into new arrays (1). -/
def Ty.mut (T : Ty) (t m : Nat) : Ty := fun x => match Nat.beq x t with
  | true => { d := (T x).d, size := (T x).size, zero := (T x).zero, mode := m }
  | false => T x
theorem TyOk.mut {P : Program} {T : Ty} (h : TyOk P T) (t m : Nat) : TyOk P (T.mut t m) := fun x => by
  unfold Ty.mut
  split
  · exact ⟨(h x).info, (h x).und, fun hb f z hf hz => by
      have := (h x).zag hb f z hf hz
      cases z <;> exact this⟩
  · exact h x

end Qa

namespace Qa
open Go

/-- saying less, where the tokens B are new and empty. -/
def DLeT (B : List Nat) (d d' : D) : Prop := ∀ (c : Cx) (w : World) (v : Value), (∀ b ∈ B, c.τ b = some (0, none)) → Rd c w d v → Rd c w d' v
theorem DLe.t {d d' : D} (h : DLe d d') (B : List Nat) : DLeT B d d' := fun c w v _ k => h c w v k
theorem DLeT.refl (B : List Nat) (d : D) : DLeT B d d := fun _ _ _ _ h => h
theorem DLeT.nil {B : List Nat} {b : Nat} (h : b ∈ B) : DLeT B .nilsl (.acc b []) := fun c w v ht hv => by
  have : v = .slice none 0 0 := hv
  subst this
  refine ⟨.nil, fun n p e => ?_⟩
  rw [ht b h] at e
  cases e
  exact ⟨Nat.le_refl _, fun _ => rfl⟩
theorem DLeT.nilV {B : List Nat} {b sz : Nat} (h : b ∈ B) : DLeT B .nilsl (.vec b 0 sz 0 0) := fun c w v ht hv => by
  have : v = .slice none 0 0 := hv
  subst this
  refine ⟨⟨_, _, rfl⟩, fun n p e => ?_⟩
  rw [ht b h] at e
  cases e
  exact ⟨Nat.le_refl _, fun _ => ⟨rfl, rfl, rfl⟩⟩
theorem DLeT.d {d d' : D} (h : DLeT [] d d') : DLe d d' := fun c w v k => h c w v (by simp) k

def DLeTL (B : List Nat) : List D → List D → Prop
  | [], [] => True
  | a :: as, b :: bs => DLeT B a b ∧ DLeTL B as bs
  | _, _ => False
theorem DLeTL.nil {B : List Nat} : DLeTL B [] [] := trivial
theorem DLeTL.cons {B : List Nat} {a b : D} {as bs : List D} (h : DLeT B a b) (k : DLeTL B as bs) : DLeTL B (a :: as) (b :: bs) := ⟨h, k⟩
theorem DLeTL.rd {B : List Nat} {c : Cx} {w : World} (ht : ∀ b ∈ B, c.τ b = some (0, none)) : ∀ {as bs : List D} {vs : List Value}, DLeTL B as bs → RdL c w as vs → RdL c w bs vs
  | [], [], [], _, _ => trivial
  | _ :: _, _ :: _, _ :: _, h, k => ⟨h.1 _ _ _ ht k.1, DLeTL.rd ht h.2 k.2⟩
  | [], _ :: _, _, h, _ => h.elim
  | _ :: _, [], _, h, _ => h.elim
  | [], [], _ :: _, _, k => k.elim
  | _ :: _, _ :: _, [], _, k => k.elim
theorem DLeTL.refl {B : List Nat} : ∀ (as : List D), DLeTL B as as
  | [] => trivial
  | a :: as => ⟨DLeT.refl B a, DLeTL.refl as⟩

def BLeT (B : List Nat) : Blk → Blk → Prop
  | .cells e cs, .cells e' cs' => e = e' ∧ DLeTL B cs cs'
  | .tok e s n, .tok e' s' n' => e = e' ∧ s = s' ∧ n = n'
  | .vec e s v xs, .vec e' s' v' xs' => e = e' ∧ s = s' ∧ v = v' ∧ xs = xs'
  | .map kd m, .map kd' m' => kd = kd' ∧ m = m'
  | _, _ => False
theorem BLeT.refl {B : List Nat} : ∀ (b : Blk), BLeT B b b
  | .cells _ cs => ⟨rfl, DLeTL.refl cs⟩
  | .tok _ _ _ => ⟨rfl, rfl, rfl⟩
  | .vec _ _ _ _ => ⟨rfl, rfl, rfl, rfl⟩
  | .map _ _ => ⟨rfl, rfl⟩
theorem BLeT.eq {B : List Nat} {a b : Blk} (h : a = b) : BLeT B a b := h ▸ BLeT.refl a
theorem BLeT.cells {B : List Nat} {e e' : TypeId} {as bs : List D} (he : e = e') (h : DLeTL B as bs) : BLeT B (.cells e as) (.cells e' bs) := ⟨he, h⟩
theorem BLeT.rel {B : List Nat} {c : Cx} {F : Nat → Prop} {w : World} {b : Nat} (ht : ∀ b ∈ B, c.τ b = some (0, none)) : ∀ {k k' : Blk}, BLeT B k k' → BlkRel c F w b k → BlkRel c F w b k'
  | .cells e cs, .cells e' cs', h, hb => by
    obtain ⟨rfl, hl⟩ := h
    obtain ⟨vs, h1, h2, h3⟩ := hb
    exact ⟨vs, h1, hl.rd ht h2, h3⟩
  | .tok .., .tok .., h, hb => by
    obtain ⟨rfl, rfl, rfl⟩ := h
    exact hb
  | .vec .., .vec .., h, hb => by
    obtain ⟨rfl, rfl, rfl, rfl⟩ := h
    exact hb
  | .map .., .map .., h, hb => by
    obtain ⟨rfl, rfl⟩ := h
    exact hb
  | .map .., .cells .., h, _ => h.elim
  | .map .., .tok .., h, _ => h.elim
  | .map .., .vec .., h, _ => h.elim
  | .cells .., .map .., h, _ => h.elim
  | .tok .., .map .., h, _ => h.elim
  | .vec .., .map .., h, _ => h.elim
  | .cells .., .tok .., h, _ => h.elim
  | .tok .., .cells .., h, _ => h.elim
  | .cells .., .vec .., h, _ => h.elim
  | .vec .., .cells .., h, _ => h.elim
  | .tok .., .vec .., h, _ => h.elim
  | .vec .., .tok .., h, _ => h.elim
theorem BLeT.place {B : List Nat} {c : Cx} {b : Nat} : ∀ {k k' : Blk}, BLeT B k k' → place c b k' = place c b k
  | .cells _ _, .cells _ _, _ => rfl
  | .tok .., .tok .., _ => rfl
  | .vec .., .vec .., _ => rfl
  | .map .., .map .., _ => rfl
  | .map .., .cells .., h => h.elim
  | .map .., .tok .., h => h.elim
  | .map .., .vec .., h => h.elim
  | .cells .., .map .., h => h.elim
  | .tok .., .map .., h => h.elim
  | .vec .., .map .., h => h.elim
  | .cells .., .tok .., h => h.elim
  | .tok .., .cells .., h => h.elim
  | .cells .., .vec .., h => h.elim
  | .vec .., .cells .., h => h.elim
  | .tok .., .vec .., h => h.elim
  | .vec .., .tok .., h => h.elim

def slots : List (Nat × D) → Tmps
  | [] => fun _ => .junk
  | (t, d) :: r => upd (slots r) t d

def heapOf : List (Nat × Blk) → Heap
  | [] => H0
  | (b, k) :: r => hset (heapOf r) b k

def leSlots (B : List Nat) (A : Tmps) (m : Nat) : List (Nat × D) → Prop
  | [] => True
  | (t, d) :: r => DLeT B (A t) d ∧ d.under (below m) = true ∧ leSlots B A m r
/-- a block of the new state: an old one, or a new empty token. -/
def leHeap (B : List Nat) (H : Heap) (m : Nat) : List (Nat × Blk) → Prop
  | [] => True
  | (b, k) :: r => ((∃ k1, H b = some k1 ∧ BLeT B k1 k) ∨ (b ∈ B ∧ ∃ e s, k = .tok e s 0 ∨ k = .vec e s 0 [])) ∧ Nat.blt b m = true ∧ k.under (below m) = true ∧ leHeap B H m r

theorem leSlots_nil {B : List Nat} {A : Tmps} {m : Nat} : leSlots B A m [] := trivial
theorem leSlots_cons {B : List Nat} {A : Tmps} {m t : Nat} {d : D} {r : List (Nat × D)} (h : DLeT B (A t) d) (hu : d.under (below m) = true) (hr : leSlots B A m r) : leSlots B A m ((t, d) :: r) := ⟨h, hu, hr⟩
theorem leHeap_nil {B : List Nat} {H : Heap} {m : Nat} : leHeap B H m [] := trivial
theorem leHeap_cons {B : List Nat} {H : Heap} {m b : Nat} {k k1 : Blk} {r : List (Nat × Blk)} (h : H b = some k1) (hk : BLeT B k1 k) (hb : Nat.blt b m = true) (hu : k.under (below m) = true) (hr : leHeap B H m r) :
    leHeap B H m ((b, k) :: r) := ⟨.inl ⟨k1, h, hk⟩, hb, hu, hr⟩
theorem leHeap_tok {B : List Nat} {H : Heap} {m b : Nat} {e : TypeId} {s : Nat} {r : List (Nat × Blk)} (h : b ∈ B) (hb : Nat.blt b m = true) (hr : leHeap B H m r) :
    leHeap B H m ((b, .tok e s 0) :: r) := ⟨.inr ⟨h, e, s, .inl rfl⟩, hb, rfl, hr⟩
theorem leHeap_vec {B : List Nat} {H : Heap} {m b : Nat} {e : TypeId} {s : Nat} {r : List (Nat × Blk)} (h : b ∈ B) (hb : Nat.blt b m = true) (hr : leHeap B H m r) :
    leHeap B H m ((b, .vec e s 0 []) :: r) := ⟨.inr ⟨h, e, s, .inr rfl⟩, hb, rfl, hr⟩

structure leSt (n0 : Nat) (B : List Nat) (nx : Nat) (A : Tmps) (H : Heap) (L : List (Nat × D)) (G : List (Nat × Blk)) (m : Nat) : Prop where
  n : Nat.ble n0 m = true
  b : ∀ b ∈ B, nx ≤ b
  s : leSlots B A m L
  h : leHeap B H m G

theorem leSlots_spec {B : List Nat} {A : Tmps} {m : Nat} : ∀ {L : List (Nat × D)}, leSlots B A m L → ∀ t, DLeT B (A t) (slots L t) ∧ (slots L t).under (below m) = true
  | [], _, t => ⟨(DLe.junk _).t B, rfl⟩
  | (x, d) :: r, h, t => by
    simp only [slots]
    by_cases e : t = x
    · subst e; rw [upd_same]; exact ⟨h.1, h.2.1⟩
    · rw [upd_ne _ _ e]; exact leSlots_spec h.2.2 t
theorem leHeap_spec {B : List Nat} {H : Heap} {m : Nat} : ∀ {G : List (Nat × Blk)}, leHeap B H m G → ∀ b k, heapOf G b = some k →
    ((∃ k1, H b = some k1 ∧ BLeT B k1 k) ∨ (b ∈ B ∧ ∃ e s, k = .tok e s 0 ∨ k = .vec e s 0 [])) ∧ b < m ∧ k.under (below m) = true
  | [], _, b, k, h => by simp [heapOf, H0] at h
  | (x, l) :: r, h, b, k, hb => by
    simp only [heapOf] at hb
    rcases hset_some hb with ⟨rfl, rfl⟩ | ⟨_, hb⟩
    · exact ⟨h.1, by simpa using h.2.1, h.2.2.1⟩
    · exact leHeap_spec h.2.2.2 b k hb

theorem leSt.le {n0 B nx A H L G m} (h : leSt n0 B nx A H L G m) : StLe n0 A H nx (slots L) (heapOf G) m := fun N d0 F c a w hr => by
  let c' : Cx := { c with τ := fun b => match B.contains b with | true => some (0, none) | false => c.τ b }
  have hB : ∀ b ∈ B, c'.τ b = some (0, none) := fun b hb => by simp [c', hb]
  have hold : ∀ b, below nx b = true → c'.τ b = c.τ b := fun b hb => by
    have hb := below_iff.1 hb
    have : b ∉ B := fun hm => by have := h.b b hm; omega
    simp [c', this]
  have s1 : Step (below nx) c w c' w := ⟨KStep.refl _ _, fun _ _ => rfl, fun b hb => by rw [hold b hb]; exact tgrow.refl _⟩
  have hs := leSlots_spec h.s
  have hh := leHeap_spec h.h
  have hn0 := Nat.le_of_ble_eq_true h.n
  have hw := hr.wr
  refine ⟨c', ⟨hr.dn, hr.sz, fun t => (hs t).1 c' w _ hB (Rd.mono s1 _ _ (hr.bt t) (hr.tm t)), fun t => (hs t).2, ⟨fun b k hb => ?_, fun b b' k k' g hb hb' hp hp' => ?_, fun b k hb => ⟨below_iff.2 (hh b k hb).2.1, (hh b k hb).2.2⟩, fun b k hb hlt => ?_, fun b hb => below_iff.2 (Nat.lt_of_lt_of_le hb hn0), hw.kb, hw.fb⟩⟩,
    ⟨s1.le hw.le0, fun _ _ => rfl, fun _ _ h => .inl h, Nat.le_refl _, fun b hb _ => hold b (hw.n0 b hb), SameIO.refl _⟩⟩
  · rcases (hh b k hb).1 with ⟨k1, h1, h2⟩ | ⟨hm, e, s, hks⟩
    · obtain ⟨hlt, hun⟩ := hw.bh b k1 h1
      exact h2.rel hB ((hw.blk b k1 h1).mono s1 hlt hun (fun _ _ => rfl) (fun _ _ _ hk => hk) (hold b hlt))
    · rcases hks with rfl | rfl
      · exact ⟨none, hB b hm, rfl⟩
      · exact ⟨none, hB b hm, rfl⟩
  · have pl : ∀ b k g, heapOf G b = some k → place c' b k = some g → ∃ k1, H b = some k1 ∧ place c b k1 = some g := fun b k g hb hp => by
      rcases (hh b k hb).1 with ⟨k1, h1, h2⟩ | ⟨hm, e, s, hks⟩
      · rw [h2.place] at hp
        exact ⟨k1, h1, (place_mono (c := c) (c' := c') rfl (hold b (hw.bh b k1 h1).1)).symm.trans hp⟩
      · rcases hks with rfl | rfl <;> simp [place, hB b hm] at hp
    obtain ⟨k1, h1, h2⟩ := pl b k g hb hp
    obtain ⟨k1', h1', h2'⟩ := pl b' k' g hb' hp'
    exact hw.inj b b' k1 k1' g h1 h1' h2 h2'
  · rcases (hh b k hb).1 with ⟨k1, h1, h2⟩ | ⟨hm, e, s, hks⟩
    · exact hw.dm b k1 h1 hlt
    · have := h.b b hm
      have := below_iff.1 (hw.n0 b hlt)
      omega

/-- a loop by a family of states. -/
theorem loop_fam {n0 : Nat} {F : Tmps → Heap → Nat → Post → Prop} {A : Tmps} {H : Heap} {nx : Nat} {Q : Post} {ι : Type} (L : ι → List (Nat × D)) (G : ι → List (Nat × Blk)) (m : Nat) (I : ι → Prop) (μ : ι → Nat) (i0 : ι) (B : List Nat)
    (hI : I i0) (h0 : leSt n0 B nx A H (L i0) (G i0) m)
    (step : ∀ i, I i → ∀ R : Tmps → Heap → Nat → Prop, (∀ (A' : Tmps) (H' : Heap) (nx' : Nat) (j : ι), I j → μ j < μ i → leSt n0 [] nx' A' H' (L j) (G j) m → R A' H' nx') →
      F (slots (L i)) (heapOf (G i)) m (athen Q R)) : loopP n0 F A H nx Q := by
  unfold loopP
  refine ⟨_, _, _, h0.le, fun R hR => ?_⟩
  have key : ∀ n i, μ i = n → I i → R (slots (L i)) (heapOf (G i)) m := by
    intro n
    induction n using Nat.strongRecOn with
    | _ n ih =>
      intro i hn hi
      exact hR _ _ _ (step i hi _ fun A' H' nx' j hj hlt hle => ⟨_, _, _, hle.le, ih (μ j) (hn ▸ hlt) j rfl hj⟩)
  exact key _ i0 rfl hI
end Qa

namespace Qa
open Go

/-- the blocks that a call changes. -/
def wlR (σ : Nat → Nat) : Nat → List Bool → List Blk → List (Nat × Blk)
  | _, _, [] => []
  | n, [], b :: bs => (σ n, b.ren σ) :: wlR σ (n + 1) [] bs
  | n, r :: rs, b :: bs => match r with
    | true => wlR σ (n + 1) rs bs
    | false => (σ n, b.ren σ) :: wlR σ (n + 1) rs bs

/-- the read-only blocks stand as they stood. -/
def roOk (H : Heap) (σ : Nat → Nat) : Nat → List Bool → List Blk → Prop
  | _, _, [] => True
  | _, [], _ => True
  | n, r :: rs, b :: bs => (match r with | true => H (σ n) = some (b.ren σ) | false => True) ∧ roOk H σ (n + 1) rs bs

theorem roOk_nil {H : Heap} {σ : Nat → Nat} {n : Nat} {bs : List Blk} : roOk H σ n [] bs := by cases bs <;> trivial
theorem roOk_t {H : Heap} {σ : Nat → Nat} {n : Nat} {rs : List Bool} {b : Blk} {bs : List Blk} (h : H (σ n) = some (b.ren σ)) (k : roOk H σ (n + 1) rs bs) : roOk H σ n (true :: rs) (b :: bs) := ⟨h, k⟩
theorem roOk_f {H : Heap} {σ : Nat → Nat} {n : Nat} {rs : List Bool} {b : Blk} {bs : List Blk} (k : roOk H σ (n + 1) rs bs) : roOk H σ n (false :: rs) (b :: bs) := ⟨trivial, k⟩

theorem hset_same_eq {H : Heap} {b : Nat} {k : Blk} (h : H b = some k) : hset H b k = H := by
  funext x
  by_cases e : x = b
  · subst e; rw [hset_same, h]
  · rw [hset_ne H k e]

theorem hsets_wlR {σ : Nat → Nat} (hi : ∀ a b, σ a = σ b → a = b) : ∀ (bs : List Blk) (n : Nat) (ro : List Bool) (H : Heap), roOk H σ n ro bs → hsets H (wl σ n bs) = hsets H (wlR σ n ro bs)
  | [], _, _, _, _ => rfl
  | b :: bs, n, [], H, _ => by
    simp only [wl, wlR, hsets]
    exact hsets_wlR hi bs (n + 1) [] _ roOk_nil
  | b :: bs, n, true :: rs, H, h => by
    simp only [wl, wlR, hsets]
    rw [hset_same_eq h.1]
    exact hsets_wlR hi bs (n + 1) rs H h.2
  | b :: bs, n, false :: rs, H, h => by
    simp only [wl, wlR, hsets]
    refine hsets_wlR hi bs (n + 1) rs _ ?_
    have : ∀ (bs : List Blk) (m : Nat) (rs : List Bool), n < m → roOk H σ m rs bs → roOk (hset H (σ n) (b.ren σ)) σ m rs bs := by
      intro bs
      induction bs with
      | nil => intro m rs _ _; cases rs <;> trivial
      | cons y ys ih =>
        intro m rs hm hr
        cases rs with
        | nil => trivial
        | cons r rs =>
          refine ⟨?_, ih (m + 1) rs (by omega) hr.2⟩
          cases r with
          | false => trivial
          | true =>
            have h1 := hr.1
            simp only at h1 ⊢
            rw [hset_ne _ _ fun e => by have := hi _ _ e; omega]
            exact h1
    exact this bs (n + 1) rs (by omega) h.2

/-- the walk at a call that changes only some of its blocks. -/
theorem AC.callR {P : Program} {f : Nat} {ds args : List D} {Hs Hs' : List Blk} {d : D} {H : Heap} {nx : Nat} {K : D → Heap → Nat → Fp → Prop} (h : AC P f ds Hs d Hs') (ids : List Nat) (ro : List Bool) (hids : idsOk nx ids = true)
    (hargs : DLeL args (renL (sig ids nx) ds)) (hH : ldHeap H (sig ids nx) (below Hs.length) ids Hs) (hro : roOk H (sig ids nx) 0 ro Hs') (hrl : Nat.ble ro.length Hs.length = true)
    (hk : K (d.ren (sig ids nx)) (hsets H (wlR (sig ids nx) 0 ro Hs')) (nx + (Hs'.length - Hs.length)) ⟨ids, (wlR (sig ids nx) 0 ro Hs').map (·.1)⟩) : Qa.callP P f args H nx K := by
  have hi : ∀ a b, sig ids nx a = sig ids nx b → a = b := fun a b e => sig_inj hids e
  unfold Qa.callP
  refine ⟨_, wlR (sig ids nx) 0 ro Hs', _, ids, Nat.le_add_right _ _, fun H2 V hH2 hfr => ?_, hk⟩
  have key : ∀ (l : List Nat) (bs : List Blk), (∀ b ∈ l, H2 b = H b) → ldHeap H (sig ids nx) (below Hs.length) l bs → ldHeap H2 (sig ids nx) (below Hs.length) l bs := by
    intro l
    induction l with
    | nil => intro bs _ hb; cases bs with | nil => exact hb | cons y bs => exact hb.elim
    | cons x l ih =>
      intro bs he hb
      cases bs with
      | nil => exact hb
      | cons y bs =>
        obtain ⟨⟨k, h1, h2⟩, h3⟩ := hb
        exact ⟨⟨k, by rw [he x (by simp)]; exact h1, h2⟩, ih bs (fun b hb => he b (by simp [hb])) h3⟩
  have hlen := ldHeap_len hH
  have hro2 : ∀ (bs : List Blk) (n : Nat) (ro : List Bool), n + ro.length ≤ ids.length → roOk H (sig ids nx) n ro bs → roOk H2 (sig ids nx) n ro bs := by
    intro bs
    induction bs with
    | nil => intro n ro _ _; cases ro <;> trivial
    | cons y ys ih =>
      intro n ro hn hr
      cases ro with
      | nil => trivial
      | cons r rs =>
        simp only [List.length_cons] at hn
        refine ⟨?_, ih (n + 1) rs (by omega) hr.2⟩
        cases r with
        | false => trivial
        | true =>
          have h1 := hr.1
          simp only at h1 ⊢
          rw [← h1]
          refine hH2 _ ?_
          have hg : ids[n]? = some (ids[n]'(by omega)) := List.getElem?_eq_getElem (by omega)
          simp only [sig, hg]
          exact List.getElem_mem _
  have hrl := Nat.le_of_ble_eq_true hrl
  rw [← hsets_wlR hi Hs' 0 ro H2 (hro2 Hs' 0 ro (by omega) hro)]
  exact AC.out h ids hids hargs (key ids Hs hH2 hH) hfr

end Qa

namespace Qa
open Go Go.RowKit

/-- a row of integers that came in. -/
theorem Rp.ints {k : IntKind} {w : World} (a : Option Addr) (len cap : Nat) (zs : List Int)
    (h : (a = none ∧ len = 0 ∧ cap = 0 ∧ zs = []) ∨ ∃ x, a = some x ∧ len ≤ cap ∧ zs.length = cap ∧ ∀ i, i < zs.length → w.cell? (x.add i) = some (.int k (zs.getD i 0))) :
    Rp (fun g o => (w.cell? ⟨g, o, none⟩).isSome = true) w (.list ((zs.take len).map (.int k))) (.slice a len cap) := by
  rcases h with ⟨rfl, rfl, rfl, rfl⟩ | ⟨x, rfl, hl, hz, hc⟩
  · simp; exact .nil
  · by_cases hcap : cap = 0
    · subst hcap
      have e : zs = [] := List.length_eq_zero_iff.1 hz
      subst e
      obtain rfl : len = 0 := by omega
      simp; exact .nila x
    · obtain ⟨g, o, rfl, hc'⟩ := Go.ints_at hc (by omega)
      have hlen : ((zs.take len).map (Pd.int k)).length = len := by simp; omega
      have key : ∀ (i : Nat) (y : Pd) (j : Nat) (c : Pd), ((zs.take len).map (Pd.int k))[i]? = some y → y.cells[j]? = some c → j = 0 ∧ c = .int k (zs.getD i 0) ∧ i < zs.length := by
        intro i y j c hy hc
        rw [List.getElem?_map, Option.map_eq_some_iff] at hy
        obtain ⟨n, hn, rfl⟩ := hy
        rw [List.getElem?_take] at hn
        split at hn
        case isFalse => cases hn
        have hlt := (List.getElem?_eq_some_iff.1 hn).1
        cases j with
        | zero => simp [Pd.cells] at hc; subst hc; exact ⟨rfl, by simp [List.getD_eq_getElem?_getD, hn], hlt⟩
        | succ j => simp [Pd.cells] at hc
      have := Rp.list (K := fun g o => (w.cell? ⟨g, o, none⟩).isSome = true) (w := w) g o cap 1 ((zs.take len).map (.int k)) (fun t => .int k (zs.getD t 0)) (by simp; omega)
        (fun i y hy => by
          rw [List.getElem?_map, Option.map_eq_some_iff] at hy
          obtain ⟨n, hn, rfl⟩ := hy
          rfl)
        (fun i y j c hy hj => by
          obtain ⟨rfl, _, hlt⟩ := key i y j c hy hj
          simp only [Nat.mul_one, Nat.add_zero]
          exact ⟨by rw [hc' i hlt]; rfl, hc' i hlt, rfl⟩)
        (fun i y j c hy hj => by
          obtain ⟨rfl, rfl, _⟩ := key i y j c hy hj
          simp only [Nat.mul_one, Nat.add_zero]
          exact .int k _)
      rwa [hlen] at this

/-- the start of a call of a law: nothing of its own, all that lies in memory is foreign. -/
theorem WRel.start (w : World) (ρ : Nat → Nat) : WRel 0 (fun _ => False) (fun _ => none) (below 0) ⟨ρ, fun _ => none, fun g o => (w.cell? ⟨g, o, none⟩).isSome = true⟩ (fun g => g < w.heap.size) w :=
{ blk := fun _ _ h => nomatch h
  inj := fun _ _ _ _ _ h => nomatch h
  bh := fun _ _ h => nomatch h
  dm := fun _ _ h => nomatch h
  n0 := fun b h => absurd h (Nat.not_lt_zero b)
  kb := fun _ _ h => (Option.isSome_iff_exists.1 h).elim fun _ hv => cell_lt hv
  fb := fun _ h => h }

/-- a contract of pure data, said of a world. -/
theorem AC.walk {P : Program} {f : Nat} {ds : List D} {b : Bool} {Hs : List Blk} (h : AC P f ds [] (.p (.bool b)) Hs) (w : World) (vs : List Value)
    (hr : RdL ⟨id, fun _ => none, fun g o => (w.cell? ⟨g, o, none⟩).isSome = true⟩ w ds vs) : Calls P f vs.toArray w fun e w' => e = .returned (.bool b) ∧ Below w.heap.size w w' := by
  unfold AC at h
  obtain ⟨_, _, h⟩ := h
  have hd : dom (lheap 0 []) = fun _ => False := by
    funext x
    simp [dom, lheap, H0]
  have hl : lheap 0 [] = fun _ => none := by funext x; rfl
  have hw := WRel.start w id
  rw [← hd, ← hl] at hw
  refine (h (fun g => g < w.heap.size) _ w vs hr hw).mono ?_
  rintro e w' ⟨v, c', rfl, _, hv, _, hl⟩
  have hv : v = .bool b := Rp.bool_inv hv
  subst hv
  exact ⟨rfl, hl.io.os, hl.io.tape, hl.io.output, hl.sz, fun k hk => hl.f k hk⟩
end Qa
