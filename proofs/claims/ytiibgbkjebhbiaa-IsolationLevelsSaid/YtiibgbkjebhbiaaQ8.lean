/-
  The functions of this program: dependencies, anomalies, levels.
  Part of a proof about the program's own text; written by an AI agent. No statement is proved here: the lemmas that the last text needs.
-/
import Derived.Test.YtiibgbkjebhbiaaQS
import Derived.Test.YtiibgbkjebhbiaaQ7
namespace Go.Proofs
open Go.Shelf
def Try.sort60_ren : Go.Shelf.Ren := ⟨fun | 6 => 60 | 15 => 82 | 14 => 81 | 28 => 96 | 29 => 97 | 20 => 88 | 21 => 89 | 22 => 90 | 23 => 91 | 24 => 92 | 25 => 93 | 26 => 94 | 27 => 95 | 46 => 98 | 47 => 99 | 48 => 100 | 49 => 101 | 50 => 102 | 57 => 103 | n => n, fun | 22 => 49 | 24 => 54 | 25 => 112 | 3 => 3 | 39 => 127 | 0 => 0 | 53 => 142 | 55 => 144 | 4 => 4 | 46 => 135 | 45 => 134 | 50 => 139 | 5 => 5 | 9 => 9 | 66 => 145 | 70 => 149 | 76 => 151 | 77 => 152 | n => n, fun | n => n⟩
theorem Try.sort60 : Go.Proofs.SlLaysF0.n6 Try.prog Try.sort60_ren := {
  mixed := by kernel_rfl
  f6 := ⟨Try.f60.name, by decide, Try.func60.trans (congrArg some (by kernel_rfl))⟩
  f14 := ⟨Try.f81.name, by decide, Try.func81.trans (congrArg some (by kernel_rfl))⟩
  f15 := Try.func82.trans (congrArg some (by kernel_rfl))
  f20 := ⟨Try.f88.name, by decide, Try.func88.trans (congrArg some (by kernel_rfl))⟩
  f21 := ⟨Try.f89.name, by decide, Try.func89.trans (congrArg some (by kernel_rfl))⟩
  f22 := ⟨Try.f90.name, by decide, Try.func90.trans (congrArg some (by kernel_rfl))⟩
  f23 := ⟨Try.f91.name, by decide, Try.func91.trans (congrArg some (by kernel_rfl))⟩
  f24 := ⟨Try.f92.name, by decide, Try.func92.trans (congrArg some (by kernel_rfl))⟩
  f25 := ⟨Try.f93.name, by decide, Try.func93.trans (congrArg some (by kernel_rfl))⟩
  f26 := ⟨Try.f94.name, by decide, Try.func94.trans (congrArg some (by kernel_rfl))⟩
  f27 := ⟨Try.f95.name, by decide, Try.func95.trans (congrArg some (by kernel_rfl))⟩
  f28 := Try.func96.trans (congrArg some (by kernel_rfl))
  f29 := Try.func97.trans (congrArg some (by kernel_rfl))
  f46 := ⟨Try.f98.name, by decide, Try.func98.trans (congrArg some (by kernel_rfl))⟩
  f47 := Try.func99.trans (congrArg some (by kernel_rfl))
  f48 := Try.func100.trans (congrArg some (by kernel_rfl))
  f49 := ⟨Try.f101.name, by decide, Try.func101.trans (congrArg some (by kernel_rfl))⟩
  f50 := ⟨Try.f102.name, by decide, Try.func102.trans (congrArg some (by kernel_rfl))⟩
  f57 := ⟨Try.f103.name, by decide, Try.func103.trans (congrArg some (by kernel_rfl))⟩
  t0 := Try.underlying0
  a0 := Try.isAgg0
  z0 := Try.sizeOf0
  v0 := Try.zeroValue0
  t3 := Try.underlying3
  a3 := Try.isAgg3
  z3 := Try.sizeOf3
  v3 := Try.zeroValue3
  t4 := Try.underlying4
  a4 := Try.isAgg4
  z4 := Try.sizeOf4
  v4 := Try.zeroValue4
  t5 := Try.underlying5
  a5 := Try.isAgg5
  z5 := Try.sizeOf5
  v5 := Try.zeroValue5
  t9 := Try.underlying9
  a9 := Try.isAgg9
  z9 := Try.sizeOf9
  v9 := Try.zeroValue9
  t22 := Try.underlying49
  a22 := Try.isAgg49
  z22 := Try.sizeOf49
  v22 := Try.zeroValue49
  t25 := Try.underlying112
  a25 := Try.isAgg112
  z25 := Try.sizeOf112
  v25 := Try.zeroValue112
  t39 := Try.underlying127
  a39 := Try.isAgg127
  z39 := Try.sizeOf127
  v39 := Try.zeroValue127
  t45 := Try.underlying134
  a45 := Try.isAgg134
  z45 := Try.sizeOf134
  v45 := Try.zeroValue134
  t46 := Try.underlying135
  a46 := Try.isAgg135
  z46 := Try.sizeOf135
  v46 := Try.zeroValue135
  t50 := Try.underlying139
  a50 := Try.isAgg139
  z50 := Try.sizeOf139
  v50 := Try.zeroValue139
  t53 := Try.underlying142
  a53 := Try.isAgg142
  z53 := Try.sizeOf142
  v53 := Try.zeroValue142
  t55 := Try.underlying144
  a55 := Try.isAgg144
  z55 := Try.sizeOf144
  v55 := Try.zeroValue144
  t66 := Try.underlying145
  a66 := Try.isAgg145
  z66 := Try.sizeOf145
  v66 := Try.zeroValue145
  t70 := Try.underlying149
  a70 := Try.isAgg149
  z70 := Try.sizeOf149
  v70 := Try.zeroValue149
  t76 := Try.underlying151
  a76 := Try.isAgg151
  z76 := Try.sizeOf151
  v76 := Try.zeroValue151
  t77 := Try.underlying152
  a77 := Try.isAgg152
  z77 := Try.sizeOf152
  v77 := Try.zeroValue152 }
end Go.Proofs
set_option maxRecDepth 100000
namespace Qa.S43
open Go Go.Proofs Go.Shelf Go.Sort

instance : Inhabited Ed := ⟨⟨0, 0, 0, 0⟩⟩
def Ed.vals (e : Ed) : List Value := [.int .i64 e.fr, .int .i64 e.to, .int .i64 e.kind, .int .i64 e.key]
def ltE (a b : Ed) : Bool := decide (cmpE a b < 0)

theorem cmpI_lt (x y : Int) : (cmpI x y < 0 ↔ x < y) ∧ (cmpI x y = 0 ↔ x = y) := by
  unfold cmpI
  split
  · omega
  · split <;> omega
theorem ltE_iff (a b : Ed) : ltE a b = true ↔ a.fr < b.fr ∨ a.fr = b.fr ∧ (a.to < b.to ∨ a.to = b.to ∧ (a.kind < b.kind ∨ a.kind = b.kind ∧ a.key < b.key)) := by
  obtain ⟨h1, g1⟩ := cmpI_lt a.fr b.fr
  obtain ⟨h2, g2⟩ := cmpI_lt a.to b.to
  obtain ⟨h3, g3⟩ := cmpI_lt a.kind b.kind
  obtain ⟨h4, g4⟩ := cmpI_lt a.key b.key
  have e : ltE a b = decide ((if cmpI a.fr b.fr = 0 then if cmpI a.to b.to = 0 then if cmpI a.kind b.kind = 0 then if cmpI a.key b.key = 0 then 0 else cmpI a.key b.key else cmpI a.kind b.kind else cmpI a.to b.to else cmpI a.fr b.fr) < 0) := rfl
  rw [e, decide_eq_true_eq]
  generalize cmpI a.fr b.fr = c1 at *
  generalize cmpI a.to b.to = c2 at *
  generalize cmpI a.kind b.kind = c3 at *
  generalize cmpI a.key b.key = c4 at *
  clear e
  by_cases k1 : c1 = 0
  · rw [if_pos k1]
    by_cases k2 : c2 = 0
    · rw [if_pos k2]
      by_cases k3 : c3 = 0
      · rw [if_pos k3]
        by_cases k4 : c4 = 0
        · rw [if_pos k4]; omega
        · rw [if_neg k4]; omega
      · rw [if_neg k3]; omega
    · rw [if_neg k2]; omega
  · rw [if_neg k1]; omega

theorem swoE : SWO (ltOf cmpE) where
  irrefl x := by
    have h : ¬ ltE x x = true := by rw [ltE_iff]; omega
    simpa [ltE, ltOf] using h
  trans x y z h1 h2 := by
    have h1 : ltE x y = true := h1
    have h2 : ltE y z = true := h2
    show ltE x z = true
    rw [ltE_iff] at *; omega
  ntrans x y z h1 h2 := by
    have h1 : ¬ ltE x y = true := by simpa [ltE, ltOf] using h1
    have h2 : ¬ ltE y z = true := by simpa [ltE, ltOf] using h2
    have h : ¬ ltE x z = true := by rw [ltE_iff] at *; omega
    simpa [ltE, ltOf] using h

theorem antE (x y : Ed) (h1 : ltOf cmpE x y = false) (h2 : ltOf cmpE y x = false) : x = y := by
  have h1 : ¬ ltE x y = true := by simpa [ltE, ltOf] using h1
  have h2 : ¬ ltE y x = true := by simpa [ltE, ltOf] using h2
  rw [ltE_iff] at h1 h2
  cases x; cases y
  simp only [Ed.mk.injEq] at *
  omega

def sortE (l : List Ed) : List Ed := l.mergeSort fun x y => !ltE y x

theorem ed_rp (x : Ed) (K : Nat → Nat → Prop) (w : World) : Rp K w x.enc (.agg x.vals.toArray) := by
  refine Rp.agg _ _ rfl (fun v hv => ?_) (fun j c v hc hv => ?_)
  · simp [Ed.vals] at hv; rcases hv with rfl | rfl | rfl | rfl <;> rfl
  · match j with
    | 0 => simp [Ed.cs] at hc; simp [Ed.vals] at hv; subst hc; subst hv; exact .int _ _
    | 1 => simp [Ed.cs] at hc; simp [Ed.vals] at hv; subst hc; subst hv; exact .int _ _
    | 2 => simp [Ed.cs] at hc; simp [Ed.vals] at hv; subst hc; subst hv; exact .int _ _
    | 3 => simp [Ed.cs] at hc; simp [Ed.vals] at hv; subst hc; subst hv; exact .int _ _
    | j + 4 => simp [Ed.cs] at hc

theorem sortF_ac (l : List Ed) (v : Nat) (hlen : l.length ≤ 1000000) : AC Try.prog 60 [.vec 0 v 4 0 l.length, .fn 61 [] []] [vecE v l] (.tup []) [vecE v (sortE l)] := by
  have fn61 : FnOk Try.prog 61 := ⟨_, Try.func61, rfl, rfl⟩
  have fn60 : FnOk Try.prog 60 := ⟨_, Try.func60, rfl, rfl⟩
  refine sort_ac Try.sort60 4 (by omega) (fun w => Try.isAgg54 w) (fun w => Try.sizeOf54 w) Ed.enc Ed.vals (fun x K w => ed_rp x K w) (fun x K w j q u hq hu => ?_) (fun _ => rfl) (fun _ => rfl) (fun _ => rfl) (fun x v hv => ?_) cmpE swoE antE
    61 fn61 (fun x y => ⟨_, cmpE_ac x y⟩) 54 v l (by omega) fn60
  · match j with
    | 0 => simp [Ed.enc, Ed.cs, Pd.cells] at hq; subst hq; rw [Rp.int_inv hu]; rfl
    | 1 => simp [Ed.enc, Ed.cs, Pd.cells] at hq; subst hq; rw [Rp.int_inv hu]; rfl
    | 2 => simp [Ed.enc, Ed.cs, Pd.cells] at hq; subst hq; rw [Rp.int_inv hu]; rfl
    | 3 => simp [Ed.enc, Ed.cs, Pd.cells] at hq; subst hq; rw [Rp.int_inv hu]; rfl
    | j + 4 => simp [Ed.enc, Ed.cs, Pd.cells] at hq
  · simp [Ed.vals] at hv; rcases hv with rfl | rfl | rfl | rfl <;> rfl
end Qa.S43

set_option maxRecDepth 100000
namespace Qa.S43
open Go Go.Proofs

def wEd (l : List Int) (key : Int) (i : Nat) : Ed := ⟨l.getD i 0, l.getD (i + 1) 0, 1, key⟩
def wEds (l : List Int) (key : Int) (n : Nat) : List Ed := (List.range n).map (wEd l key)
def cand1 (h : Hist) (n : Nat) : List Ed := (List.range n).flatMap fun (key : Nat) => wEds (versionsL h key) key ((versionsL h key).length - 1)
def tE2 (t : Tk) : Ed := ⟨t.fr, t.by_, 2, t.key⟩
def tE3 (h : Hist) (t : Tk) : Ed := ⟨t.by_, (versionsL h t.key).getD (idx (versionsL h t.key) t.fr + 1).toNat 0, 3, t.key⟩
def tEds (h : Hist) (t : Tk) : List Ed := tE2 t :: (if idx (versionsL h t.key) t.fr + 1 < (versionsL h t.key).length then [tE3 h t] else [])
def cand2 (h : Hist) (n : Nat) : List Ed := ((takesL h).take n).flatMap (tEds h)
def rawE (h : Hist) : List Ed := (cand1 h h.start.length ++ cand2 h (takesL h).length).filter Ed.ok
def edgesL (h : Hist) : List Ed := compL (sortE (rawE h))

theorem addE_eq (l : List Ed) (e : Ed) : addE l e = l ++ [e].filter Ed.ok := by
  unfold addE
  cases he : e.ok <;> simp [he]
theorem wEds_succ (l : List Int) (key : Int) (n : Nat) : wEds l key (n + 1) = wEds l key n ++ [wEd l key n] := by
  simp [wEds, List.range_succ]
theorem cand1_succ (h : Hist) (n : Nat) : cand1 h (n + 1) = cand1 h n ++ wEds (versionsL h n) n ((versionsL h n).length - 1) := by
  simp [cand1, List.range_succ]
theorem versionsL_len (h : Hist) (hl : h.events.length ≤ 200) (key : Int) : (versionsL h key).length ≤ 201 := by
  have h1 := verOut_len h key h.events.length
  rw [verOut, List.take_length] at h1
  exact Nat.le_trans h1 (by omega)
theorem cand1_len (h : Hist) (hl : h.events.length ≤ 200) (n : Nat) : (cand1 h n).length ≤ n * 200 := by
  induction n with
  | zero => simp [cand1]
  | succ n ih =>
    rw [cand1_succ, List.length_append]
    have := versionsL_len h hl n
    simp only [wEds, List.length_map, List.length_range]
    omega
theorem takesL_len (h : Hist) (hl : h.events.length ≤ 200) : (takesL h).length ≤ 200 := by
  have h1 := takesTo_len h h.events.length
  rw [takesTo, List.take_length] at h1
  exact Nat.le_trans h1 hl
theorem cand2_succ (h : Hist) {n : Nat} (hn : n < (takesL h).length) : cand2 h (n + 1) = cand2 h n ++ tEds h (takesL h)[n] := by
  simp only [cand2]
  rw [List.take_succ_eq_append_getElem hn, List.flatMap_append]
  simp
theorem cand2_len (h : Hist) (n : Nat) (hn : n ≤ (takesL h).length) : (cand2 h n).length ≤ n * 2 := by
  induction n with
  | zero => simp [cand2]
  | succ n ih =>
    rw [cand2_succ h hn, List.length_append]
    have := ih (by omega)
    have : (tEds h (takesL h)[n]).length ≤ 2 := by
      unfold tEds
      split <;> simp
    omega

theorem idx_ge (l : List Int) (x : Int) : -1 ≤ idx l x ∧ idx l x < l.length := by
  unfold idx
  cases h : l.findIdx? (· == x) with
  | none => simp; omega
  | some k =>
    have := (List.findIdx?_eq_some_iff_getElem.1 h).1
    simp; omega

theorem edges_ac (h : Hist) (hv : h.ok) (hf : h.okF) : AC Try.prog 38 [.p h.enc] [] (.p (eds (edgesL h))) [] := by
  have hv0 := hv
  obtain ⟨hs, hl, _⟩ := hv
  refine AC.body T_ok mx_ok Try.func38 rfl rfl rfl rfl rfl rfl ?_
  conv => whnf
  refine loop_fam (ι := Nat × Nat) (fun s => [(1, .ref 0 0), (3, .ref 1 0), (4, .fn 57 [] [.ref 1 0]), (15, i64 h.start.length), (16, i64 s.1)])
    (fun s => [(0, h.blk), (1, .cells 49 [.vec 2 s.2 4 0 ((cand1 h s.1).filter Ed.ok).length]), (2, vecE s.2 ((cand1 h s.1).filter Ed.ok))]) 3
    (fun s => s.1 ≤ h.start.length) (fun s => h.start.length - s.1) (0, 0) [2] (Nat.zero_le _) ⟨rfl, by simp, ?_, ?_⟩ ?_
  · (repeat' (first | exact leSlots_nil | refine leSlots_cons ?_ rfl ?_)) <;> (first | exact DLeT.refl _ _ | (refine (DLe.p ?_).t _; (simp; done)) | skip)
  · exact leHeap_cons rfl (BLeT.refl _) rfl rfl (leHeap_cons rfl (BLeT.cells rfl (DLeTL.cons (DLeT.nilV (by simp)) DLeTL.nil)) rfl rfl (leHeap_vec (by simp) rfl leHeap_nil))
  · rintro ⟨k, v⟩ hk R hR
    dsimp only at hk
    conv => whnf
    refine condB_split (fun h1 => ?_) (fun h1 => ?_)
    · have h1 : k < h.start.length := by simpa using h1
      conv => whnf
      refine (versions_ac h hv0 k).callP (by (repeat' (first | exact trivial | refine ⟨DLe.refl _, ?_⟩ | refine ⟨DLe.acc _ _, ?_⟩ | refine ⟨DLe.full _, ?_⟩ | refine ⟨DLe.nil, ?_⟩ | (refine ⟨DLe.p ?_, ?_⟩; focus (simp; done))))) ?_
      conv => whnf
      have hvl := versionsL_len h hl k
      have hc1 := cand1_len h hl k
      refine loop_fam (ι := Nat × Nat) (fun s => [(1, .ref 0 0), (3, .ref 1 0), (4, .fn 57 [] [.ref 1 0]), (5, i64 k), (6, .p (ints (versionsL h k))), (7, i64 ((s.1 : Int) + 1)), (15, i64 h.start.length), (16, i64 k)])
        (fun s => [(0, h.blk), (1, .cells 49 [.vec 2 s.2 4 0 ((cand1 h k ++ wEds (versionsL h k) k s.1).filter Ed.ok).length]), (2, vecE s.2 ((cand1 h k ++ wEds (versionsL h k) k s.1).filter Ed.ok))]) 3
        (fun s => s.1 ≤ (versionsL h k).length - 1) (fun s => (versionsL h k).length - s.1) (0, v) [] (Nat.zero_le _) ⟨rfl, by simp, ?_, ?_⟩ ?_
      · (repeat' (first | exact leSlots_nil | refine leSlots_cons ?_ rfl ?_)) <;> (first | exact DLeT.refl _ _ | (refine (DLe.p ?_).t _; (simp; done)) | skip)
      · refine leHeap_cons rfl (BLeT.refl _) rfl rfl (leHeap_cons rfl (BLeT.eq ?_) rfl rfl (leHeap_cons rfl (BLeT.eq ?_) rfl rfl leHeap_nil))
        · simp [wEds]
        · simp [wEds]
      · rintro ⟨m, u⟩ hm R2 hR2
        dsimp only at hm
        conv => whnf
        refine condB_split (fun h2 => ?_) (fun h2 => ?_)
        · have h2 : m + 1 < (versionsL h k).length := by simp at h2; omega
          conv => whnf
          refine wrapP_intro (wrap64 (by first | omega | (dsimp only; omega) | (simp only [List.length_map]; omega)) (by first | omega | (dsimp only; omega) | (simp only [List.length_map]; omega))) ?_
          conv => whnf
          refine getP_intro (.int .i64 ((versionsL h k).getD m 0)) (by dsimp only; omega) (by rw [show ((m : Int) + 1 - 1).toNat = m by omega, List.getElem?_map, List.getD_eq_getElem?_getD, List.getElem?_eq_getElem (show m < (versionsL h k).length by omega)]; rfl) ?_
          conv => whnf
          refine getP_intro (.int .i64 ((versionsL h k).getD (m + 1) 0)) (by dsimp only; omega) (by dsimp only; rw [show ((m : Int) + 1).toNat = m + 1 by omega, List.getElem?_map, List.getD_eq_getElem?_getD, List.getElem?_eq_getElem h2]; rfl) ?_
          conv => whnf
          have hfl := List.length_filter_le Ed.ok (cand1 h k ++ wEds (versionsL h k) k m)
          have hwl : (wEds (versionsL h k) k m).length = m := by simp [wEds]
          rw [List.length_append] at hfl
          refine (add_ac (wEd (versionsL h k) k m) u ((cand1 h k ++ wEds (versionsL h k) k m).filter Ed.ok) (by omega)).call [1, 2] rfl ⟨DLe.refl _, DLe.refl _, DLe.refl _, DLe.refl _, DLe.refl _, trivial⟩
            (ldHeap_cons rfl (BLe.refl _) rfl (ldHeap_cons rfl (BLe.refl _) rfl ldHeap_nil)) ?_
          conv => whnf
          refine needP_intro (by kernel_rfl) ?_
          conv => whnf
          refine wrapP_intro (wrap64 (by first | omega | (dsimp only; omega) | (simp only [List.length_map]; omega)) (by first | omega | (dsimp only; omega) | (simp only [List.length_map]; omega))) ?_
          conv => whnf
          have e1 : addE ((cand1 h k ++ wEds (versionsL h k) k m).filter Ed.ok) (wEd (versionsL h k) k m) = (cand1 h k ++ wEds (versionsL h k) k (m + 1)).filter Ed.ok := by
            rw [addE_eq, wEds_succ, ← List.filter_append, List.append_assoc]
          refine hR2 _ _ _ (m + 1, addV u (wEd (versionsL h k) k m)) (by dsimp only; omega) (by dsimp only; omega) ⟨rfl, by simp, ?_, ?_⟩
          · (repeat' (first | exact leSlots_nil | refine leSlots_cons ?_ rfl ?_)) <;> (first | exact DLeT.refl _ _ | (refine (DLe.p ?_).t _; (simp; done)) | skip)
          · refine leHeap_cons rfl (BLeT.refl _) rfl rfl (leHeap_cons rfl (BLeT.eq ?_) rfl rfl (leHeap_cons rfl (BLeT.eq ?_) rfl rfl leHeap_nil))
            · dsimp only; rw [← e1]; rfl
            · dsimp only; rw [← e1]; rfl
        · have h2 : m = (versionsL h k).length - 1 := by simp at h2; omega
          conv => whnf
          refine wrapP_intro (wrap64 (by first | omega | (dsimp only; omega) | (simp only [List.length_map]; omega)) (by first | omega | (dsimp only; omega) | (simp only [List.length_map]; omega))) ?_
          conv => whnf
          refine hR _ _ _ (k + 1, u) h1 (by dsimp only; omega) ⟨rfl, by simp, ?_, ?_⟩
          · (repeat' (first | exact leSlots_nil | refine leSlots_cons ?_ rfl ?_)) <;> (first | exact DLeT.refl _ _ | (refine (DLe.p ?_).t _; (simp; done)) | skip)
          · refine leHeap_cons rfl (BLeT.refl _) rfl rfl (leHeap_cons rfl (BLeT.eq ?_) rfl rfl (leHeap_cons rfl (BLeT.eq ?_) rfl rfl leHeap_nil))
            · dsimp only; rw [cand1_succ, ← h2]
            · dsimp only; rw [cand1_succ, ← h2]
    · have h1 : k = h.start.length := by simp at h1; omega
      subst h1
      clear hR
      conv => whnf
      refine (takes_ac h hv0 hf).callP (by (repeat' (first | exact trivial | refine ⟨DLe.refl _, ?_⟩ | refine ⟨DLe.acc _ _, ?_⟩ | refine ⟨DLe.full _, ?_⟩ | refine ⟨DLe.nil, ?_⟩ | (refine ⟨DLe.p ?_, ?_⟩; focus (simp; done))))) ?_
      conv => whnf
      have htl := takesL_len h hl
      have hc1 := cand1_len h hl h.start.length
      refine loop_fam (ι := Nat × Nat) (fun s => [(1, .ref 0 0), (3, .ref 1 0), (4, .fn 57 [] [.ref 1 0]), (42, .p (tks (takesL h))), (43, i64 (takesL h).length), (44, i64 s.1)])
        (fun s => [(0, h.blk), (1, .cells 49 [.vec 2 s.2 4 0 ((cand1 h h.start.length ++ cand2 h s.1).filter Ed.ok).length]), (2, vecE s.2 ((cand1 h h.start.length ++ cand2 h s.1).filter Ed.ok))]) 3
        (fun s => s.1 ≤ (takesL h).length) (fun s => (takesL h).length - s.1) (0, v) [] (Nat.zero_le _) ⟨rfl, by simp, ?_, ?_⟩ ?_
      · (repeat' (first | exact leSlots_nil | refine leSlots_cons ?_ rfl ?_)) <;> (first | exact DLeT.refl _ _ | (refine (DLe.p ?_).t _; (simp; done)) | skip)
      · refine leHeap_cons rfl (BLeT.refl _) rfl rfl (leHeap_cons rfl (BLeT.eq ?_) rfl rfl (leHeap_cons rfl (BLeT.eq ?_) rfl rfl leHeap_nil))
        · simp [cand2]
        · simp [cand2]
      · rintro ⟨n, u⟩ hn R hR
        dsimp only at hn
        have hc2 := cand2_len h n hn
        have hfl := List.length_filter_le Ed.ok (cand1 h h.start.length ++ cand2 h n)
        rw [List.length_append] at hfl
        conv => whnf
        refine condB_split (fun h2 => ?_) (fun h2 => ?_)
        · have h2 : n < (takesL h).length := by simpa using h2
          have hvl := versionsL_len h hl (takesL h)[n].key
          have hix := idx_ge (versionsL h (takesL h)[n].key) (takesL h)[n].fr
          conv => whnf
          refine getP_intro ((takesL h)[n].enc) (by first | omega | (dsimp only; omega) | (simp only [List.length_map]; omega)) (by simpa using tks_get h2) ?_
          conv => whnf
          refine (add_ac (tE2 (takesL h)[n]) u ((cand1 h h.start.length ++ cand2 h n).filter Ed.ok) (by omega)).call [1, 2] rfl ⟨DLe.refl _, DLe.refl _, DLe.refl _, DLe.refl _, DLe.refl _, trivial⟩
            (ldHeap_cons rfl (BLe.refl _) rfl (ldHeap_cons rfl (BLe.refl _) rfl ldHeap_nil)) ?_
          conv => whnf
          have e1 : addE ((cand1 h h.start.length ++ cand2 h n).filter Ed.ok) (tE2 (takesL h)[n]) = (cand1 h h.start.length ++ cand2 h n ++ [tE2 (takesL h)[n]]).filter Ed.ok := by
            rw [addE_eq, ← List.filter_append]
          rw [e1]
          refine (versions_ac h hv0 (takesL h)[n].key).callP (by (repeat' (first | exact trivial | refine ⟨DLe.refl _, ?_⟩ | refine ⟨DLe.acc _ _, ?_⟩ | refine ⟨DLe.full _, ?_⟩ | refine ⟨DLe.nil, ?_⟩ | (refine ⟨DLe.p ?_, ?_⟩; focus (simp; done))))) ?_
          conv => whnf
          refine (index_ac (versionsL h (takesL h)[n].key) (takesL h)[n].fr (by omega)).callP (by (repeat' (first | exact trivial | refine ⟨DLe.refl _, ?_⟩ | refine ⟨DLe.acc _ _, ?_⟩ | refine ⟨DLe.full _, ?_⟩ | refine ⟨DLe.nil, ?_⟩ | (refine ⟨DLe.p ?_, ?_⟩; focus (simp; done))))) ?_
          conv => whnf
          refine wrapP_intro (wrap64 (by first | omega | (dsimp only; omega) | (simp only [List.length_map]; omega)) (by first | omega | (dsimp only; omega) | (simp only [List.length_map]; omega))) ?_
          conv => whnf
          refine condB_split (fun h3 => ?_) (fun h3 => ?_)
          · have h3 : idx (versionsL h (takesL h)[n].key) (takesL h)[n].fr + 1 < (versionsL h (takesL h)[n].key).length := by simpa using h3
            conv => whnf
            refine wrapP_intro (wrap64 (by first | omega | (dsimp only; omega) | (simp only [List.length_map]; omega)) (by first | omega | (dsimp only; omega) | (simp only [List.length_map]; omega))) ?_
            conv => whnf
            refine getP_intro (.int .i64 ((versionsL h (takesL h)[n].key).getD (idx (versionsL h (takesL h)[n].key) (takesL h)[n].fr + 1).toNat 0)) (by omega) (by rw [List.getElem?_map, List.getD_eq_getElem?_getD, List.getElem?_eq_getElem (by omega)]; rfl) ?_
            conv => whnf
            refine (add_ac (tE3 h (takesL h)[n]) _
              ((cand1 h h.start.length ++ cand2 h n ++ [tE2 (takesL h)[n]]).filter Ed.ok) ?_).call [1, 2] rfl ⟨DLe.refl _, DLe.refl _, DLe.refl _, DLe.refl _, DLe.refl _, trivial⟩
              (ldHeap_cons rfl (BLe.refl _) rfl (ldHeap_cons rfl (BLe.refl _) rfl ldHeap_nil)) ?_
            · rw [List.filter_append, List.length_append]
              have := List.length_filter_le Ed.ok [tE2 (takesL h)[n]]
              rw [List.length_singleton] at this
              omega
            have e2 := addE_eq ((cand1 h h.start.length ++ cand2 h n ++ [tE2 (takesL h)[n]]).filter Ed.ok) (tE3 h (takesL h)[n])
            rw [← List.filter_append] at e2
            rw [e2]
            conv => whnf
            refine needP_intro (by kernel_rfl) ?_
            conv => whnf
            refine wrapP_intro (wrap64 (by first | omega | (dsimp only; omega) | (simp only [List.length_map]; omega)) (by first | omega | (dsimp only; omega) | (simp only [List.length_map]; omega))) ?_
            conv => whnf
            have e3 : cand1 h h.start.length ++ cand2 h (n + 1) = cand1 h h.start.length ++ cand2 h n ++ [tE2 (takesL h)[n]] ++ [tE3 h (takesL h)[n]] := by
              rw [cand2_succ h h2]; simp [tEds, h3]
            refine hR _ _ _ (n + 1, addV (addV u (tE2 (takesL h)[n])) (tE3 h (takesL h)[n])) h2 (by dsimp only; omega) ⟨rfl, by simp, ?_, ?_⟩
            · (repeat' (first | exact leSlots_nil | refine leSlots_cons ?_ rfl ?_)) <;> (first | exact DLeT.refl _ _ | (refine (DLe.p ?_).t _; (simp; done)) | skip)
            · refine leHeap_cons rfl (BLeT.refl _) rfl rfl (leHeap_cons rfl (BLeT.eq ?_) rfl rfl (leHeap_cons rfl (BLeT.eq ?_) rfl rfl leHeap_nil))
              · dsimp only; rw [e3]; rfl
              · dsimp only; rw [e3]; rfl
          · have h3 : ¬ idx (versionsL h (takesL h)[n].key) (takesL h)[n].fr + 1 < (versionsL h (takesL h)[n].key).length := by simpa using h3
            conv => whnf
            refine wrapP_intro (wrap64 (by first | omega | (dsimp only; omega) | (simp only [List.length_map]; omega)) (by first | omega | (dsimp only; omega) | (simp only [List.length_map]; omega))) ?_
            conv => whnf
            have e3 : cand1 h h.start.length ++ cand2 h (n + 1) = cand1 h h.start.length ++ cand2 h n ++ [tE2 (takesL h)[n]] := by
              rw [cand2_succ h h2]; simp [tEds, h3]
            refine hR _ _ _ (n + 1, addV u (tE2 (takesL h)[n])) h2 (by dsimp only; omega) ⟨rfl, by simp, ?_, ?_⟩
            · (repeat' (first | exact leSlots_nil | refine leSlots_cons ?_ rfl ?_)) <;> (first | exact DLeT.refl _ _ | (refine (DLe.p ?_).t _; (simp; done)) | skip)
            · refine leHeap_cons rfl (BLeT.refl _) rfl rfl (leHeap_cons rfl (BLeT.eq ?_) rfl rfl (leHeap_cons rfl (BLeT.eq ?_) rfl rfl leHeap_nil))
              · dsimp only; rw [e3]; rfl
              · dsimp only; rw [e3]; rfl
        · have h2 : n = (takesL h).length := by simp at h2; omega
          subst h2
          conv => whnf
          refine (sortF_ac ((cand1 h h.start.length ++ cand2 h (takesL h).length).filter Ed.ok) u (by omega)).call [2] rfl ⟨DLe.refl _, DLe.refl _, trivial⟩ (ldHeap_cons rfl (BLe.refl _) rfl ldHeap_nil) ?_
          conv => whnf
          have hsl : (sortE ((cand1 h h.start.length ++ cand2 h (takesL h).length).filter Ed.ok)).length = ((cand1 h h.start.length ++ cand2 h (takesL h).length).filter Ed.ok).length := List.length_mergeSort _
          rw [← hsl]
          refine (compact_ac (sortE ((cand1 h h.start.length ++ cand2 h (takesL h).length).filter Ed.ok)) u (by omega)).call [2] rfl ⟨DLe.refl _, trivial⟩ (ldHeap_cons rfl (BLe.refl _) rfl ldHeap_nil) ?_
          conv => whnf
          refine DoneLe.freeze rfl (by simp [compV]) ?_
          refine DoneLe.p ?_
          show Pd.list ((((compV (sortE (rawE h))).map Ed.enc).drop 0).take (compL (sortE (rawE h))).length) = _
          rw [List.drop_zero, compV, List.map_append, List.take_append_of_le_length (by simp), List.take_of_length_le (by simp)]
          rfl
end Qa.S43

set_option maxRecDepth 100000
namespace Qa.S43
open Go Go.Proofs

-- odd reads
def oddRd (done : Nat → Bool) (x : Ev) : Bool := x.kind == 1 && done x.tr.toNat && !decide (x.fr < 0) && !(x.fr == x.tr)
def isLW (x w : Ev) : Bool := w.kind == 2 && w.tr == x.fr && w.key == x.key
def lastW (l : List Ev) (x : Ev) : Option Ev := l.reverse.find? (isLW x)
def abortR (h : Hist) (x : Ev) : Bool := oddRd (doneF h.events) x && !doneF h.events x.fr.toNat
def betwR (h : Hist) (x : Ev) : Bool := oddRd (doneF h.events) x && (match lastW h.events x with | some w => w.value != x.value | none => false)
def abortTo (h : Hist) (k : Nat) : Bool := (h.events.take k).any (abortR h)
def betwTo (h : Hist) (k : Nat) : Bool := (h.events.take k).any (betwR h)
def abortB (h : Hist) : Bool := h.events.any (abortR h)
def betwB (h : Hist) : Bool := h.events.any (betwR h)
theorem abortTo_succ {h : Hist} {k : Nat} (hk : k < h.events.length) : abortTo h (k + 1) = (abortTo h k || abortR h h.events[k]) := by
  simp only [abortTo]
  rw [List.take_succ_eq_append_getElem hk, List.any_append]; simp
theorem betwTo_succ {h : Hist} {k : Nat} (hk : k < h.events.length) : betwTo h (k + 1) = (betwTo h k || betwR h h.events[k]) := by
  simp only [betwTo]
  rw [List.take_succ_eq_append_getElem hk, List.any_append]; simp

theorem lastW_found {l : List Ev} {x : Ev} {m : Nat} (hm : m < l.length) (hw : isLW x l[m] = true) (hp : ∀ e ∈ l.drop (m + 1), isLW x e = false) : lastW l x = some l[m] := by
  have hd : l = l.take m ++ l[m] :: l.drop (m + 1) := by
    rw [← List.drop_eq_getElem_cons hm, List.take_append_drop]
  rw [lastW, List.find?_eq_some_iff_append]
  refine ⟨hw, (l.drop (m + 1)).reverse, (l.take m).reverse, ?_, fun a ha => ?_⟩
  · conv => lhs; rw [hd]
    simp
  · rw [hp a (by simpa using ha)]; rfl
theorem lastW_none {l : List Ev} {x : Ev} (hp : ∀ e ∈ l, isLW x e = false) : lastW l x = none := by
  rw [lastW, List.find?_eq_none]
  intro e he
  rw [hp e (by simpa using he)]; simp

theorem odd_ac (h : Hist) (hv : h.ok) (hf : h.okF) : AC Try.prog 45 [.p h.enc] [] (.tup [.p (.bool (abortB h)), .p (.bool (betwB h))]) [] := by
  have hv0 := hv
  obtain ⟨_, hl, hv⟩ := hv
  refine AC.body T_ok mx_ok Try.func45 rfl rfl rfl rfl rfl rfl ?_
  conv => whnf
  refine (committed_ac h hv0).callP (by (repeat' (first | exact trivial | refine ⟨DLe.refl _, ?_⟩ | refine ⟨DLe.acc _ _, ?_⟩ | refine ⟨DLe.full _, ?_⟩ | refine ⟨DLe.nil, ?_⟩ | (refine ⟨DLe.p ?_, ?_⟩; focus (simp; done))))) ?_
  conv => whnf
  refine loop_fam (ι := Nat) (fun k => [(1, .ref 0 0), (2, .p (.bool (abortTo h k))), (3, .p (.bool (betwTo h k))), (4, .ref 1 0), (12, .p (evs h.events)), (13, i64 h.events.length), (14, i64 k)])
    (fun _ => [(0, h.blk), (1, .cells 83 (boolsD (doneF h.events)))]) 2
    (fun k => k ≤ h.events.length) (fun k => h.events.length - k) 0 [] (Nat.zero_le _) ⟨rfl, by simp, ?_, ?_⟩ ?_
  · (repeat' (first | exact leSlots_nil | refine leSlots_cons ?_ rfl ?_)) <;> (first | exact DLeT.refl _ _ | (refine (DLe.p ?_).t _; (simp; done)) | skip)
  · (repeat' (first | exact leHeap_nil | refine leHeap_cons rfl ?_ rfl rfl ?_)) <;> (first | exact BLeT.refl _ | (refine BLeT.eq ?_; (simp; done)) | skip)
  · rintro k hk R hR
    conv => whnf
    refine condB_split (fun h3 => ?_) (fun h3 => ?_)
    · have h3 : k < h.events.length := by simpa using h3
      have hr := hv _ (List.getElem_mem h3)
      have hrf := hf _ (List.getElem_mem h3)
      conv => whnf
      refine getP_intro (h.events[k].enc) (by first | omega | (dsimp only; omega) | (simp only [List.length_map]; omega)) (by simpa using evs_get h3) ?_
      conv => whnf
      refine condB_split (fun h4 => ?_) (fun h4 => ?_)
      · have h4 : ¬ h.events[k].kind = 1 := by simpa using h4
        have ho : oddRd (doneF h.events) h.events[k] = false := by simp [oddRd, h4]
        have e1 : abortTo h (k + 1) = abortTo h k := by rw [abortTo_succ h3, abortR, ho]; simp
        have e2 : betwTo h (k + 1) = betwTo h k := by rw [betwTo_succ h3, betwR, ho]; simp
        conv => whnf
        refine wrapP_intro (wrap64 (by first | omega | (dsimp only; omega) | (simp only [List.length_map]; omega)) (by first | omega | (dsimp only; omega) | (simp only [List.length_map]; omega))) ?_
        conv => whnf
        refine hR _ _ _ (k + 1) h3 (by omega) ?_
        rw [e1, e2]
        refine ⟨rfl, by simp, ?_, ?_⟩
        · (repeat' (first | exact leSlots_nil | refine leSlots_cons ?_ rfl ?_)) <;> (first | exact DLeT.refl _ _ | (refine (DLe.p ?_).t _; (simp; done)) | skip)
        · (repeat' (first | exact leHeap_nil | refine leHeap_cons rfl ?_ rfl rfl ?_)) <;> (first | exact BLeT.refl _ | (refine BLeT.eq ?_; (simp; done)) | skip)
      have h4 : h.events[k].kind = 1 := by simpa using h4
      conv => whnf
      refine needP_intro (⟨by omega, by omega⟩) ?_
      conv => whnf
      refine getD_intro (.p (.bool (doneF h.events h.events[k].tr.toNat))) (by rw [Nat.zero_add, Nat.mul_one]; exact boolsD_get _ (by omega)) ?_
      conv => whnf
      refine condB_split (fun h5 => ?_) (fun h5 => ?_)
      · have h5 : doneF h.events h.events[k].tr.toNat = false := by simpa using h5
        have ho : oddRd (doneF h.events) h.events[k] = false := by simp [oddRd, h5]
        have e1 : abortTo h (k + 1) = abortTo h k := by rw [abortTo_succ h3, abortR, ho]; simp
        have e2 : betwTo h (k + 1) = betwTo h k := by rw [betwTo_succ h3, betwR, ho]; simp
        conv => whnf
        refine wrapP_intro (wrap64 (by first | omega | (dsimp only; omega) | (simp only [List.length_map]; omega)) (by first | omega | (dsimp only; omega) | (simp only [List.length_map]; omega))) ?_
        conv => whnf
        refine hR _ _ _ (k + 1) h3 (by omega) ?_
        rw [e1, e2]
        refine ⟨rfl, by simp, ?_, ?_⟩
        · (repeat' (first | exact leSlots_nil | refine leSlots_cons ?_ rfl ?_)) <;> (first | exact DLeT.refl _ _ | (refine (DLe.p ?_).t _; (simp; done)) | skip)
        · (repeat' (first | exact leHeap_nil | refine leHeap_cons rfl ?_ rfl rfl ?_)) <;> (first | exact BLeT.refl _ | (refine BLeT.eq ?_; (simp; done)) | skip)
      have h5 : doneF h.events h.events[k].tr.toNat = true := by simpa using h5
      conv => whnf
      refine condB_split (fun h6 => ?_) (fun h6 => ?_)
      · have h6 : h.events[k].fr < 0 := by simpa using h6
        have ho : oddRd (doneF h.events) h.events[k] = false := by simp [oddRd, h6]
        have e1 : abortTo h (k + 1) = abortTo h k := by rw [abortTo_succ h3, abortR, ho]; simp
        have e2 : betwTo h (k + 1) = betwTo h k := by rw [betwTo_succ h3, betwR, ho]; simp
        conv => whnf
        refine wrapP_intro (wrap64 (by first | omega | (dsimp only; omega) | (simp only [List.length_map]; omega)) (by first | omega | (dsimp only; omega) | (simp only [List.length_map]; omega))) ?_
        conv => whnf
        refine hR _ _ _ (k + 1) h3 (by omega) ?_
        rw [e1, e2]
        refine ⟨rfl, by simp, ?_, ?_⟩
        · (repeat' (first | exact leSlots_nil | refine leSlots_cons ?_ rfl ?_)) <;> (first | exact DLeT.refl _ _ | (refine (DLe.p ?_).t _; (simp; done)) | skip)
        · (repeat' (first | exact leHeap_nil | refine leHeap_cons rfl ?_ rfl rfl ?_)) <;> (first | exact BLeT.refl _ | (refine BLeT.eq ?_; (simp; done)) | skip)
      have h6 : ¬ h.events[k].fr < 0 := by simpa using h6
      conv => whnf
      refine condB_split (fun h7 => ?_) (fun h7 => ?_)
      · have h7 : h.events[k].fr = h.events[k].tr := by simpa using h7
        have ho : oddRd (doneF h.events) h.events[k] = false := by simp [oddRd, h7]
        have e1 : abortTo h (k + 1) = abortTo h k := by rw [abortTo_succ h3, abortR, ho]; simp
        have e2 : betwTo h (k + 1) = betwTo h k := by rw [betwTo_succ h3, betwR, ho]; simp
        conv => whnf
        refine wrapP_intro (wrap64 (by first | omega | (dsimp only; omega) | (simp only [List.length_map]; omega)) (by first | omega | (dsimp only; omega) | (simp only [List.length_map]; omega))) ?_
        conv => whnf
        refine hR _ _ _ (k + 1) h3 (by omega) ?_
        rw [e1, e2]
        refine ⟨rfl, by simp, ?_, ?_⟩
        · (repeat' (first | exact leSlots_nil | refine leSlots_cons ?_ rfl ?_)) <;> (first | exact DLeT.refl _ _ | (refine (DLe.p ?_).t _; (simp; done)) | skip)
        · (repeat' (first | exact leHeap_nil | refine leHeap_cons rfl ?_ rfl rfl ?_)) <;> (first | exact BLeT.refl _ | (refine BLeT.eq ?_; (simp; done)) | skip)
      have h7 : ¬ h.events[k].fr = h.events[k].tr := by simpa using h7
      have ho : oddRd (doneF h.events) h.events[k] = true := by simp [oddRd, h4, h5, h7]; omega
      have hrf := hrf h4
      conv => whnf
      refine condB_split (fun h8 => ?_) (fun h8 => ?_)
      · conv => whnf
        refine wrapP_intro (wrap64 (by first | omega | (dsimp only; omega) | (simp only [List.length_map]; omega)) (by first | omega | (dsimp only; omega) | (simp only [List.length_map]; omega))) ?_
        conv => whnf
        have hab : abortTo h (k + 1) = true := by rw [abortTo_succ h3, abortR, ho]; simp [h8]
        refine loop_fam (ι := Nat) (fun m => [(1, .ref 0 0), (2, .p (.bool (abortTo h (k + 1)))), (3, .p (.bool (betwTo h k))), (4, .ref 1 0), (6, .ref 2 0), (7, i64 ((m : Int) - 1)), (12, .p (evs h.events)), (13, i64 h.events.length), (14, i64 k)])
          (fun _ => [(0, h.blk), (1, .cells 83 (boolsD (doneF h.events))), (2, h.events[k].blk)]) 3
          (fun m => m ≤ h.events.length ∧ ∀ e ∈ h.events.drop m, isLW h.events[k] e = false) (fun m => m) h.events.length [] ⟨Nat.le_refl _, by simp⟩ ⟨rfl, by simp, ?_, ?_⟩ ?_
        · rw [hab]
          (repeat' (first | exact leSlots_nil | refine leSlots_cons ?_ rfl ?_)) <;> (first | exact DLeT.refl _ _ | (refine (DLe.p ?_).t _; (simp; done)) | skip)
        · (repeat' (first | exact leHeap_nil | refine leHeap_cons rfl ?_ rfl rfl ?_)) <;> (first | exact BLeT.refl _ | (refine BLeT.eq ?_; (simp; done)) | skip)
        · rintro m ⟨hm, hp⟩ R2 hR2
          conv => whnf
          refine condB_split (fun h9 => ?_) (fun h9 => ?_)
          · have h9 : 1 ≤ m := by simp at h9; omega
            have hlt : m - 1 < h.events.length := by omega
            have hz : ((m : Int) - 1).toNat = m - 1 := by omega
            conv => whnf
            refine getP_intro (h.events[m - 1].enc) (by first | omega | (dsimp only; omega) | (simp only [List.length_map]; omega)) (by rw [hz]; exact evs_get hlt) ?_
            conv => whnf
            refine condB_split (fun g1 => ?_) (fun g1 => ?_)
            · have g1 : h.events[m - 1].kind = 2 := by simpa using g1
              conv => whnf
              refine condB_split (fun g2 => ?_) (fun g2 => ?_)
              · have g2 : h.events[m - 1].tr = h.events[k].fr := by simpa using g2
                conv => whnf
                refine condB_split (fun g3 => ?_) (fun g3 => ?_)
                · have g3 : h.events[m - 1].key = h.events[k].key := by simpa using g3
                  have hlw : lastW h.events h.events[k] = some h.events[m - 1] := lastW_found hlt (by simp [isLW, g1, g2, g3]) (by rw [show m - 1 + 1 = m by omega]; exact hp)
                  conv => whnf
                  refine condB_split (fun g4 => ?_) (fun g4 => ?_)
                  · conv => whnf
                    refine wrapP_intro (wrap64 (by first | omega | (dsimp only; omega) | (simp only [List.length_map]; omega)) (by first | omega | (dsimp only; omega) | (simp only [List.length_map]; omega))) ?_
                    conv => whnf
                    refine hR _ _ _ (k + 1) h3 (by omega) ⟨rfl, by simp, ?_, ?_⟩
                    · refine leSlots_cons (DLeT.refl _ _) rfl (leSlots_cons (DLeT.refl _ _) rfl (leSlots_cons ((DLe.p ?_).t _) rfl ?_))
                      · rw [betwTo_succ h3, betwR, ho]
                        simp [g4, bne, bd]
                      (repeat' (first | exact leSlots_nil | refine leSlots_cons ?_ rfl ?_)) <;> (first | exact DLeT.refl _ _ | (refine (DLe.p ?_).t _; (simp; done)) | skip)
                    · (repeat' (first | exact leHeap_nil | refine leHeap_cons rfl ?_ rfl rfl ?_)) <;> (first | exact BLeT.refl _ | (refine BLeT.eq ?_; (simp; done)) | skip)
                  · conv => whnf
                    refine wrapP_intro (wrap64 (by first | omega | (dsimp only; omega) | (simp only [List.length_map]; omega)) (by first | omega | (dsimp only; omega) | (simp only [List.length_map]; omega))) ?_
                    conv => whnf
                    refine hR _ _ _ (k + 1) h3 (by omega) ⟨rfl, by simp, ?_, ?_⟩
                    · refine leSlots_cons (DLeT.refl _ _) rfl (leSlots_cons (DLeT.refl _ _) rfl (leSlots_cons ((DLe.p ?_).t _) rfl ?_))
                      · rw [betwTo_succ h3, betwR, ho]
                        simp [g4, hlw, bne, bd]
                      (repeat' (first | exact leSlots_nil | refine leSlots_cons ?_ rfl ?_)) <;> (first | exact DLeT.refl _ _ | (refine (DLe.p ?_).t _; (simp; done)) | skip)
                    · (repeat' (first | exact leHeap_nil | refine leHeap_cons rfl ?_ rfl rfl ?_)) <;> (first | exact BLeT.refl _ | (refine BLeT.eq ?_; (simp; done)) | skip)
                · have g3 : ¬ h.events[m - 1].key = h.events[k].key := by simpa using g3
                  have hw : isLW h.events[k] h.events[m - 1] = false := by simp [isLW, g3]
                  conv => whnf
                  refine wrapP_intro (wrap64 (by first | omega | (dsimp only; omega) | (simp only [List.length_map]; omega)) (by first | omega | (dsimp only; omega) | (simp only [List.length_map]; omega))) ?_
                  conv => whnf
                  refine hR2 _ _ _ (m - 1) ⟨by omega, fun e he => ?_⟩ (by omega) ⟨rfl, by simp, ?_, ?_⟩
                  · rw [List.drop_eq_getElem_cons hlt, show m - 1 + 1 = m by omega] at he
                    rcases List.mem_cons.1 he with rfl | he
                    · exact hw
                    · exact hp e he
                  · refine leSlots_cons (DLeT.refl _ _) rfl (leSlots_cons (DLeT.refl _ _) rfl (leSlots_cons (DLeT.refl _ _) rfl (leSlots_cons (DLeT.refl _ _) rfl (leSlots_cons (DLeT.refl _ _) rfl (leSlots_cons ((DLe.p ?_).t _) rfl ?_)))))
                    · congr 1; omega
                    (repeat' (first | exact leSlots_nil | refine leSlots_cons ?_ rfl ?_)) <;> (first | exact DLeT.refl _ _ | (refine (DLe.p ?_).t _; (simp; done)) | skip)
                  · (repeat' (first | exact leHeap_nil | refine leHeap_cons rfl ?_ rfl rfl ?_)) <;> (first | exact BLeT.refl _ | (refine BLeT.eq ?_; (simp; done)) | skip)
              · have g2 : ¬ h.events[m - 1].tr = h.events[k].fr := by simpa using g2
                have hw : isLW h.events[k] h.events[m - 1] = false := by simp [isLW, g2]
                conv => whnf
                refine wrapP_intro (wrap64 (by first | omega | (dsimp only; omega) | (simp only [List.length_map]; omega)) (by first | omega | (dsimp only; omega) | (simp only [List.length_map]; omega))) ?_
                conv => whnf
                refine hR2 _ _ _ (m - 1) ⟨by omega, fun e he => ?_⟩ (by omega) ⟨rfl, by simp, ?_, ?_⟩
                · rw [List.drop_eq_getElem_cons hlt, show m - 1 + 1 = m by omega] at he
                  rcases List.mem_cons.1 he with rfl | he
                  · exact hw
                  · exact hp e he
                · refine leSlots_cons (DLeT.refl _ _) rfl (leSlots_cons (DLeT.refl _ _) rfl (leSlots_cons (DLeT.refl _ _) rfl (leSlots_cons (DLeT.refl _ _) rfl (leSlots_cons (DLeT.refl _ _) rfl (leSlots_cons ((DLe.p ?_).t _) rfl ?_)))))
                  · congr 1; omega
                  (repeat' (first | exact leSlots_nil | refine leSlots_cons ?_ rfl ?_)) <;> (first | exact DLeT.refl _ _ | (refine (DLe.p ?_).t _; (simp; done)) | skip)
                · (repeat' (first | exact leHeap_nil | refine leHeap_cons rfl ?_ rfl rfl ?_)) <;> (first | exact BLeT.refl _ | (refine BLeT.eq ?_; (simp; done)) | skip)
            · have g1 : ¬ h.events[m - 1].kind = 2 := by simpa using g1
              have hw : isLW h.events[k] h.events[m - 1] = false := by simp [isLW, g1]
              conv => whnf
              refine wrapP_intro (wrap64 (by first | omega | (dsimp only; omega) | (simp only [List.length_map]; omega)) (by first | omega | (dsimp only; omega) | (simp only [List.length_map]; omega))) ?_
              conv => whnf
              refine hR2 _ _ _ (m - 1) ⟨by omega, fun e he => ?_⟩ (by omega) ⟨rfl, by simp, ?_, ?_⟩
              · rw [List.drop_eq_getElem_cons hlt, show m - 1 + 1 = m by omega] at he
                rcases List.mem_cons.1 he with rfl | he
                · exact hw
                · exact hp e he
              · refine leSlots_cons (DLeT.refl _ _) rfl (leSlots_cons (DLeT.refl _ _) rfl (leSlots_cons (DLeT.refl _ _) rfl (leSlots_cons (DLeT.refl _ _) rfl (leSlots_cons (DLeT.refl _ _) rfl (leSlots_cons ((DLe.p ?_).t _) rfl ?_)))))
                · congr 1; omega
                (repeat' (first | exact leSlots_nil | refine leSlots_cons ?_ rfl ?_)) <;> (first | exact DLeT.refl _ _ | (refine (DLe.p ?_).t _; (simp; done)) | skip)
              · (repeat' (first | exact leHeap_nil | refine leHeap_cons rfl ?_ rfl rfl ?_)) <;> (first | exact BLeT.refl _ | (refine BLeT.eq ?_; (simp; done)) | skip)
          · have h9 : m = 0 := by simp at h9; omega
            subst h9
            have hlw : lastW h.events h.events[k] = none := lastW_none (by simpa using hp)
            conv => whnf
            refine wrapP_intro (wrap64 (by first | omega | (dsimp only; omega) | (simp only [List.length_map]; omega)) (by first | omega | (dsimp only; omega) | (simp only [List.length_map]; omega))) ?_
            conv => whnf
            refine hR _ _ _ (k + 1) h3 (by omega) ⟨rfl, by simp, ?_, ?_⟩
            · refine leSlots_cons (DLeT.refl _ _) rfl (leSlots_cons (DLeT.refl _ _) rfl (leSlots_cons ((DLe.p ?_).t _) rfl ?_))
              · rw [betwTo_succ h3, betwR, ho]
                simp [hlw, bne, bd]
              (repeat' (first | exact leSlots_nil | refine leSlots_cons ?_ rfl ?_)) <;> (first | exact DLeT.refl _ _ | (refine (DLe.p ?_).t _; (simp; done)) | skip)
            · (repeat' (first | exact leHeap_nil | refine leHeap_cons rfl ?_ rfl rfl ?_)) <;> (first | exact BLeT.refl _ | (refine BLeT.eq ?_; (simp; done)) | skip)
      · conv => whnf
        refine needP_intro (⟨by omega, by omega⟩) ?_
        conv => whnf
        refine getD_intro (.p (.bool (doneF h.events h.events[k].fr.toNat))) (by rw [Nat.zero_add, Nat.mul_one]; exact boolsD_get _ (by omega)) ?_
        conv => whnf
        refine wrapP_intro (wrap64 (by first | omega | (dsimp only; omega) | (simp only [List.length_map]; omega)) (by first | omega | (dsimp only; omega) | (simp only [List.length_map]; omega))) ?_
        conv => whnf
        have hab : abortTo h (k + 1) = (!doneF h.events h.events[k].fr.toNat) := by rw [abortTo_succ h3, abortR, ho]; simp [h8]
        refine loop_fam (ι := Nat) (fun m => [(1, .ref 0 0), (2, .p (.bool (abortTo h (k + 1)))), (3, .p (.bool (betwTo h k))), (4, .ref 1 0), (6, .ref 2 0), (7, i64 ((m : Int) - 1)), (12, .p (evs h.events)), (13, i64 h.events.length), (14, i64 k)])
          (fun _ => [(0, h.blk), (1, .cells 83 (boolsD (doneF h.events))), (2, h.events[k].blk)]) 3
          (fun m => m ≤ h.events.length ∧ ∀ e ∈ h.events.drop m, isLW h.events[k] e = false) (fun m => m) h.events.length [] ⟨Nat.le_refl _, by simp⟩ ⟨rfl, by simp, ?_, ?_⟩ ?_
        · rw [hab]
          (repeat' (first | exact leSlots_nil | refine leSlots_cons ?_ rfl ?_)) <;> (first | exact DLeT.refl _ _ | (refine (DLe.p ?_).t _; (simp; done)) | skip)
        · (repeat' (first | exact leHeap_nil | refine leHeap_cons rfl ?_ rfl rfl ?_)) <;> (first | exact BLeT.refl _ | (refine BLeT.eq ?_; (simp; done)) | skip)
        · rintro m ⟨hm, hp⟩ R2 hR2
          conv => whnf
          refine condB_split (fun h9 => ?_) (fun h9 => ?_)
          · have h9 : 1 ≤ m := by simp at h9; omega
            have hlt : m - 1 < h.events.length := by omega
            have hz : ((m : Int) - 1).toNat = m - 1 := by omega
            conv => whnf
            refine getP_intro (h.events[m - 1].enc) (by first | omega | (dsimp only; omega) | (simp only [List.length_map]; omega)) (by rw [hz]; exact evs_get hlt) ?_
            conv => whnf
            refine condB_split (fun g1 => ?_) (fun g1 => ?_)
            · have g1 : h.events[m - 1].kind = 2 := by simpa using g1
              conv => whnf
              refine condB_split (fun g2 => ?_) (fun g2 => ?_)
              · have g2 : h.events[m - 1].tr = h.events[k].fr := by simpa using g2
                conv => whnf
                refine condB_split (fun g3 => ?_) (fun g3 => ?_)
                · have g3 : h.events[m - 1].key = h.events[k].key := by simpa using g3
                  have hlw : lastW h.events h.events[k] = some h.events[m - 1] := lastW_found hlt (by simp [isLW, g1, g2, g3]) (by rw [show m - 1 + 1 = m by omega]; exact hp)
                  conv => whnf
                  refine condB_split (fun g4 => ?_) (fun g4 => ?_)
                  · conv => whnf
                    refine wrapP_intro (wrap64 (by first | omega | (dsimp only; omega) | (simp only [List.length_map]; omega)) (by first | omega | (dsimp only; omega) | (simp only [List.length_map]; omega))) ?_
                    conv => whnf
                    refine hR _ _ _ (k + 1) h3 (by omega) ⟨rfl, by simp, ?_, ?_⟩
                    · refine leSlots_cons (DLeT.refl _ _) rfl (leSlots_cons (DLeT.refl _ _) rfl (leSlots_cons ((DLe.p ?_).t _) rfl ?_))
                      · rw [betwTo_succ h3, betwR, ho]
                        simp [g4, bne, bd]
                      (repeat' (first | exact leSlots_nil | refine leSlots_cons ?_ rfl ?_)) <;> (first | exact DLeT.refl _ _ | (refine (DLe.p ?_).t _; (simp; done)) | skip)
                    · (repeat' (first | exact leHeap_nil | refine leHeap_cons rfl ?_ rfl rfl ?_)) <;> (first | exact BLeT.refl _ | (refine BLeT.eq ?_; (simp; done)) | skip)
                  · conv => whnf
                    refine wrapP_intro (wrap64 (by first | omega | (dsimp only; omega) | (simp only [List.length_map]; omega)) (by first | omega | (dsimp only; omega) | (simp only [List.length_map]; omega))) ?_
                    conv => whnf
                    refine hR _ _ _ (k + 1) h3 (by omega) ⟨rfl, by simp, ?_, ?_⟩
                    · refine leSlots_cons (DLeT.refl _ _) rfl (leSlots_cons (DLeT.refl _ _) rfl (leSlots_cons ((DLe.p ?_).t _) rfl ?_))
                      · rw [betwTo_succ h3, betwR, ho]
                        simp [g4, hlw, bne, bd]
                      (repeat' (first | exact leSlots_nil | refine leSlots_cons ?_ rfl ?_)) <;> (first | exact DLeT.refl _ _ | (refine (DLe.p ?_).t _; (simp; done)) | skip)
                    · (repeat' (first | exact leHeap_nil | refine leHeap_cons rfl ?_ rfl rfl ?_)) <;> (first | exact BLeT.refl _ | (refine BLeT.eq ?_; (simp; done)) | skip)
                · have g3 : ¬ h.events[m - 1].key = h.events[k].key := by simpa using g3
                  have hw : isLW h.events[k] h.events[m - 1] = false := by simp [isLW, g3]
                  conv => whnf
                  refine wrapP_intro (wrap64 (by first | omega | (dsimp only; omega) | (simp only [List.length_map]; omega)) (by first | omega | (dsimp only; omega) | (simp only [List.length_map]; omega))) ?_
                  conv => whnf
                  refine hR2 _ _ _ (m - 1) ⟨by omega, fun e he => ?_⟩ (by omega) ⟨rfl, by simp, ?_, ?_⟩
                  · rw [List.drop_eq_getElem_cons hlt, show m - 1 + 1 = m by omega] at he
                    rcases List.mem_cons.1 he with rfl | he
                    · exact hw
                    · exact hp e he
                  · refine leSlots_cons (DLeT.refl _ _) rfl (leSlots_cons (DLeT.refl _ _) rfl (leSlots_cons (DLeT.refl _ _) rfl (leSlots_cons (DLeT.refl _ _) rfl (leSlots_cons (DLeT.refl _ _) rfl (leSlots_cons ((DLe.p ?_).t _) rfl ?_)))))
                    · congr 1; omega
                    (repeat' (first | exact leSlots_nil | refine leSlots_cons ?_ rfl ?_)) <;> (first | exact DLeT.refl _ _ | (refine (DLe.p ?_).t _; (simp; done)) | skip)
                  · (repeat' (first | exact leHeap_nil | refine leHeap_cons rfl ?_ rfl rfl ?_)) <;> (first | exact BLeT.refl _ | (refine BLeT.eq ?_; (simp; done)) | skip)
              · have g2 : ¬ h.events[m - 1].tr = h.events[k].fr := by simpa using g2
                have hw : isLW h.events[k] h.events[m - 1] = false := by simp [isLW, g2]
                conv => whnf
                refine wrapP_intro (wrap64 (by first | omega | (dsimp only; omega) | (simp only [List.length_map]; omega)) (by first | omega | (dsimp only; omega) | (simp only [List.length_map]; omega))) ?_
                conv => whnf
                refine hR2 _ _ _ (m - 1) ⟨by omega, fun e he => ?_⟩ (by omega) ⟨rfl, by simp, ?_, ?_⟩
                · rw [List.drop_eq_getElem_cons hlt, show m - 1 + 1 = m by omega] at he
                  rcases List.mem_cons.1 he with rfl | he
                  · exact hw
                  · exact hp e he
                · refine leSlots_cons (DLeT.refl _ _) rfl (leSlots_cons (DLeT.refl _ _) rfl (leSlots_cons (DLeT.refl _ _) rfl (leSlots_cons (DLeT.refl _ _) rfl (leSlots_cons (DLeT.refl _ _) rfl (leSlots_cons ((DLe.p ?_).t _) rfl ?_)))))
                  · congr 1; omega
                  (repeat' (first | exact leSlots_nil | refine leSlots_cons ?_ rfl ?_)) <;> (first | exact DLeT.refl _ _ | (refine (DLe.p ?_).t _; (simp; done)) | skip)
                · (repeat' (first | exact leHeap_nil | refine leHeap_cons rfl ?_ rfl rfl ?_)) <;> (first | exact BLeT.refl _ | (refine BLeT.eq ?_; (simp; done)) | skip)
            · have g1 : ¬ h.events[m - 1].kind = 2 := by simpa using g1
              have hw : isLW h.events[k] h.events[m - 1] = false := by simp [isLW, g1]
              conv => whnf
              refine wrapP_intro (wrap64 (by first | omega | (dsimp only; omega) | (simp only [List.length_map]; omega)) (by first | omega | (dsimp only; omega) | (simp only [List.length_map]; omega))) ?_
              conv => whnf
              refine hR2 _ _ _ (m - 1) ⟨by omega, fun e he => ?_⟩ (by omega) ⟨rfl, by simp, ?_, ?_⟩
              · rw [List.drop_eq_getElem_cons hlt, show m - 1 + 1 = m by omega] at he
                rcases List.mem_cons.1 he with rfl | he
                · exact hw
                · exact hp e he
              · refine leSlots_cons (DLeT.refl _ _) rfl (leSlots_cons (DLeT.refl _ _) rfl (leSlots_cons (DLeT.refl _ _) rfl (leSlots_cons (DLeT.refl _ _) rfl (leSlots_cons (DLeT.refl _ _) rfl (leSlots_cons ((DLe.p ?_).t _) rfl ?_)))))
                · congr 1; omega
                (repeat' (first | exact leSlots_nil | refine leSlots_cons ?_ rfl ?_)) <;> (first | exact DLeT.refl _ _ | (refine (DLe.p ?_).t _; (simp; done)) | skip)
              · (repeat' (first | exact leHeap_nil | refine leHeap_cons rfl ?_ rfl rfl ?_)) <;> (first | exact BLeT.refl _ | (refine BLeT.eq ?_; (simp; done)) | skip)
          · have h9 : m = 0 := by simp at h9; omega
            subst h9
            have hlw : lastW h.events h.events[k] = none := lastW_none (by simpa using hp)
            conv => whnf
            refine wrapP_intro (wrap64 (by first | omega | (dsimp only; omega) | (simp only [List.length_map]; omega)) (by first | omega | (dsimp only; omega) | (simp only [List.length_map]; omega))) ?_
            conv => whnf
            refine hR _ _ _ (k + 1) h3 (by omega) ⟨rfl, by simp, ?_, ?_⟩
            · refine leSlots_cons (DLeT.refl _ _) rfl (leSlots_cons (DLeT.refl _ _) rfl (leSlots_cons ((DLe.p ?_).t _) rfl ?_))
              · rw [betwTo_succ h3, betwR, ho]
                simp [hlw, bne, bd]
              (repeat' (first | exact leSlots_nil | refine leSlots_cons ?_ rfl ?_)) <;> (first | exact DLeT.refl _ _ | (refine (DLe.p ?_).t _; (simp; done)) | skip)
            · (repeat' (first | exact leHeap_nil | refine leHeap_cons rfl ?_ rfl rfl ?_)) <;> (first | exact BLeT.refl _ | (refine BLeT.eq ?_; (simp; done)) | skip)
    · have hkl : k = h.events.length := by simp at h3; omega
      subst hkl
      conv => whnf
      refine DoneLe.pure (DLe.eq ?_) (fun _ => rfl) rfl
      simp [abortTo, abortB, betwTo, betwB, List.take_length]
      rfl
end Qa.S43

set_option maxRecDepth 100000
namespace Qa.S43
open Go Go.Proofs

-- lost updates
def lostP (h : Hist) (a b : Tk) : Bool := !(a.by_ == b.by_) && a.key == b.key && a.fr == b.fr && (versionsL h a.key).contains a.by_ && (versionsL h a.key).contains b.by_
def lostAt (h : Hist) (i : Nat) : Bool := match (takesL h)[i]? with | some a => ((takesL h).take i).any (lostP h a) | none => false
def lostB (h : Hist) : Bool := (List.range (takesL h).length).any (lostAt h)

theorem lost_ac (h : Hist) (hv : h.ok) (hf : h.okF) : AC Try.prog 46 [.p h.enc] [] (.p (.bool (lostB h))) [] := by
  have hv0 := hv
  obtain ⟨_, hl, hv⟩ := hv
  have htl := takesL_len h hl
  refine AC.body T_ok mx_ok Try.func46 rfl rfl rfl rfl rfl rfl ?_
  conv => whnf
  refine (takes_ac h hv0 hf).callP (by (repeat' (first | exact trivial | refine ⟨DLe.refl _, ?_⟩ | refine ⟨DLe.acc _ _, ?_⟩ | refine ⟨DLe.full _, ?_⟩ | refine ⟨DLe.nil, ?_⟩ | (refine ⟨DLe.p ?_, ?_⟩; focus (simp; done))))) ?_
  conv => whnf
  refine loop_fam (ι := Nat) (fun k => [(1, .ref 0 0), (3, .p (tks (takesL h))), (11, .p (tks (takesL h))), (12, i64 (takesL h).length), (13, i64 k)]) (fun _ => [(0, h.blk)]) 1
    (fun k => k ≤ (takesL h).length ∧ ∀ i, i < k → lostAt h i = false) (fun k => (takesL h).length - k) 0 [] ⟨Nat.zero_le _, by omega⟩ ⟨rfl, by simp, ?_, ?_⟩ ?_
  · (repeat' (first | exact leSlots_nil | refine leSlots_cons ?_ rfl ?_)) <;> (first | exact DLeT.refl _ _ | (refine (DLe.p ?_).t _; (simp; done)) | skip)
  · (repeat' (first | exact leHeap_nil | refine leHeap_cons rfl ?_ rfl rfl ?_)) <;> (first | exact BLeT.refl _ | (refine BLeT.eq ?_; (simp; done)) | skip)
  · rintro k ⟨hk, hp⟩ R hR
    conv => whnf
    refine condB_split (fun h1 => ?_) (fun h1 => ?_)
    · have h1 : k < (takesL h).length := by simpa using h1
      conv => whnf
      refine getP_intro ((takesL h)[k].enc) (by first | omega | (dsimp only; omega) | (simp only [List.length_map]; omega)) (by simpa using tks_get h1) ?_
      conv => whnf
      refine needP_intro (⟨by omega, by omega, by simp; omega, tks_cells⟩) ?_
      conv => whnf
      refine loop_fam (ι := Nat) (fun j => [(1, .ref 0 0), (3, .p (tks (takesL h))), (5, .ref 1 0), (11, .p (tks (takesL h))), (12, i64 (takesL h).length), (13, i64 k), (20, .p (tks ((takesL h).take k))), (21, i64 k), (22, i64 j)])
        (fun _ => [(0, h.blk), (1, (takesL h)[k].blk)]) 2
        (fun j => j ≤ k ∧ ∀ b ∈ (takesL h).take j, lostP h (takesL h)[k] b = false) (fun j => k - j) 0 [] ⟨Nat.zero_le _, by simp⟩ ⟨rfl, by simp, ?_, ?_⟩ ?_
      · (repeat' (first | exact leSlots_nil | refine leSlots_cons ?_ rfl ?_)) <;> (first | exact DLeT.refl _ _ | (refine (DLe.p ?_).t _; (simp; done)) | skip)
        · refine (DLe.p ?_).t _
          simp [tks, List.map_take]
        · refine (DLe.p ?_).t _
          simp; omega
      · (repeat' (first | exact leHeap_nil | refine leHeap_cons rfl ?_ rfl rfl ?_)) <;> (first | exact BLeT.refl _ | (refine BLeT.eq ?_; (simp; done)) | skip)
      · rintro j ⟨hj, hpj⟩ R2 hR2
        conv => whnf
        refine condB_split (fun h2 => ?_) (fun h2 => ?_)
        · have h2 : j < k := by simpa using h2
          have hjl : j < (takesL h).length := by omega
          conv => whnf
          refine getP_intro ((takesL h)[j].enc) (by first | omega | (dsimp only; omega) | (simp only [List.length_map]; omega)) (by rw [List.getElem?_map, List.getElem?_take, if_pos (by simpa using h2)]; simpa using congrArg (Option.map Tk.enc) (List.getElem?_eq_getElem hjl)) ?_
          conv => whnf
          refine condB_split (fun h3 => ?_) (fun h3 => ?_)
          · have h3 : (takesL h)[k].by_ = (takesL h)[j].by_ := by simpa using h3
            have hlp : lostP h (takesL h)[k] (takesL h)[j] = false := by simp [lostP, h3]
            conv => whnf
            refine wrapP_intro (wrap64 (by first | omega | (dsimp only; omega) | (simp only [List.length_map]; omega)) (by first | omega | (dsimp only; omega) | (simp only [List.length_map]; omega))) ?_
            conv => whnf
            refine hR2 _ _ _ (j + 1) ⟨h2, fun e he => ?_⟩ (by omega) ⟨rfl, by simp, ?_, ?_⟩
            · rw [List.take_succ_eq_append_getElem hjl] at he
              rcases List.mem_append.1 he with he | he
              · exact hpj e he
              · simp at he; subst he; exact hlp
            · (repeat' (first | exact leSlots_nil | refine leSlots_cons ?_ rfl ?_)) <;> (first | exact DLeT.refl _ _ | (refine (DLe.p ?_).t _; (simp; done)) | skip)
            · (repeat' (first | exact leHeap_nil | refine leHeap_cons rfl ?_ rfl rfl ?_)) <;> (first | exact BLeT.refl _ | (refine BLeT.eq ?_; (simp; done)) | skip)
          have h3 : ¬ (takesL h)[k].by_ = (takesL h)[j].by_ := by simpa using h3
          conv => whnf
          refine condB_split (fun h4 => ?_) (fun h4 => ?_)
          · have h4 : ¬ (takesL h)[k].key = (takesL h)[j].key := by simpa using h4
            have hlp : lostP h (takesL h)[k] (takesL h)[j] = false := by simp [lostP, h4]
            conv => whnf
            refine wrapP_intro (wrap64 (by first | omega | (dsimp only; omega) | (simp only [List.length_map]; omega)) (by first | omega | (dsimp only; omega) | (simp only [List.length_map]; omega))) ?_
            conv => whnf
            refine hR2 _ _ _ (j + 1) ⟨h2, fun e he => ?_⟩ (by omega) ⟨rfl, by simp, ?_, ?_⟩
            · rw [List.take_succ_eq_append_getElem hjl] at he
              rcases List.mem_append.1 he with he | he
              · exact hpj e he
              · simp at he; subst he; exact hlp
            · (repeat' (first | exact leSlots_nil | refine leSlots_cons ?_ rfl ?_)) <;> (first | exact DLeT.refl _ _ | (refine (DLe.p ?_).t _; (simp; done)) | skip)
            · (repeat' (first | exact leHeap_nil | refine leHeap_cons rfl ?_ rfl rfl ?_)) <;> (first | exact BLeT.refl _ | (refine BLeT.eq ?_; (simp; done)) | skip)
          have h4 : (takesL h)[k].key = (takesL h)[j].key := by simpa using h4
          conv => whnf
          refine condB_split (fun h5 => ?_) (fun h5 => ?_)
          · have h5 : ¬ (takesL h)[k].fr = (takesL h)[j].fr := by simpa using h5
            have hlp : lostP h (takesL h)[k] (takesL h)[j] = false := by simp [lostP, h5]
            conv => whnf
            refine wrapP_intro (wrap64 (by first | omega | (dsimp only; omega) | (simp only [List.length_map]; omega)) (by first | omega | (dsimp only; omega) | (simp only [List.length_map]; omega))) ?_
            conv => whnf
            refine hR2 _ _ _ (j + 1) ⟨h2, fun e he => ?_⟩ (by omega) ⟨rfl, by simp, ?_, ?_⟩
            · rw [List.take_succ_eq_append_getElem hjl] at he
              rcases List.mem_append.1 he with he | he
              · exact hpj e he
              · simp at he; subst he; exact hlp
            · (repeat' (first | exact leSlots_nil | refine leSlots_cons ?_ rfl ?_)) <;> (first | exact DLeT.refl _ _ | (refine (DLe.p ?_).t _; (simp; done)) | skip)
            · (repeat' (first | exact leHeap_nil | refine leHeap_cons rfl ?_ rfl rfl ?_)) <;> (first | exact BLeT.refl _ | (refine BLeT.eq ?_; (simp; done)) | skip)
          have h5 : (takesL h)[k].fr = (takesL h)[j].fr := by simpa using h5
          have hvl := versionsL_len h hl (takesL h)[k].key
          conv => whnf
          refine (versions_ac h hv0 (takesL h)[k].key).callP (by (repeat' (first | exact trivial | refine ⟨DLe.refl _, ?_⟩ | refine ⟨DLe.acc _ _, ?_⟩ | refine ⟨DLe.full _, ?_⟩ | refine ⟨DLe.nil, ?_⟩ | (refine ⟨DLe.p ?_, ?_⟩; focus (simp; done))))) ?_
          conv => whnf
          refine (contains_ac (versionsL h (takesL h)[k].key) (takesL h)[k].by_ (by omega)).callP (by (repeat' (first | exact trivial | refine ⟨DLe.refl _, ?_⟩ | refine ⟨DLe.acc _ _, ?_⟩ | refine ⟨DLe.full _, ?_⟩ | refine ⟨DLe.nil, ?_⟩ | (refine ⟨DLe.p ?_, ?_⟩; focus (simp; done))))) ?_
          conv => whnf
          refine condB_split (fun h6 => ?_) (fun h6 => ?_)
          · conv => whnf
            refine (contains_ac (versionsL h (takesL h)[k].key) (takesL h)[j].by_ (by omega)).callP (by (repeat' (first | exact trivial | refine ⟨DLe.refl _, ?_⟩ | refine ⟨DLe.acc _ _, ?_⟩ | refine ⟨DLe.full _, ?_⟩ | refine ⟨DLe.nil, ?_⟩ | (refine ⟨DLe.p ?_, ?_⟩; focus (simp; done))))) ?_
            conv => whnf
            refine condB_split (fun h7 => ?_) (fun h7 => ?_)
            · have h7 : (versionsL h (takesL h)[k].key).contains (takesL h)[j].by_ = true := by simpa using h7
              conv => whnf
              refine DoneLe.p ?_
              have hlp : lostP h (takesL h)[k] (takesL h)[j] = true := by rw [lostP, h6, h7]; simp [h3, h4, h5]
              have : lostB h = true := by
                rw [lostB, List.any_eq_true]
                refine ⟨k, List.mem_range.2 h1, ?_⟩
                rw [lostAt, List.getElem?_eq_getElem h1]
                exact List.any_eq_true.2 ⟨_, List.mem_take_iff_getElem.2 ⟨j, by omega, rfl⟩, hlp⟩
              rw [this]
            · have h7 : (versionsL h (takesL h)[k].key).contains (takesL h)[j].by_ = false := by simpa using h7
              have hlp : lostP h (takesL h)[k] (takesL h)[j] = false := by rw [lostP, h7]; simp
              conv => whnf
              refine wrapP_intro (wrap64 (by first | omega | (dsimp only; omega) | (simp only [List.length_map]; omega)) (by first | omega | (dsimp only; omega) | (simp only [List.length_map]; omega))) ?_
              conv => whnf
              refine hR2 _ _ _ (j + 1) ⟨h2, fun e he => ?_⟩ (by omega) ⟨rfl, by simp, ?_, ?_⟩
              · rw [List.take_succ_eq_append_getElem hjl] at he
                rcases List.mem_append.1 he with he | he
                · exact hpj e he
                · simp at he; subst he; exact hlp
              · (repeat' (first | exact leSlots_nil | refine leSlots_cons ?_ rfl ?_)) <;> (first | exact DLeT.refl _ _ | (refine (DLe.p ?_).t _; (simp; done)) | skip)
              · (repeat' (first | exact leHeap_nil | refine leHeap_cons rfl ?_ rfl rfl ?_)) <;> (first | exact BLeT.refl _ | (refine BLeT.eq ?_; (simp; done)) | skip)
          · have hlp : lostP h (takesL h)[k] (takesL h)[j] = false := by rw [lostP, h6]; simp
            conv => whnf
            refine wrapP_intro (wrap64 (by first | omega | (dsimp only; omega) | (simp only [List.length_map]; omega)) (by first | omega | (dsimp only; omega) | (simp only [List.length_map]; omega))) ?_
            conv => whnf
            refine hR2 _ _ _ (j + 1) ⟨h2, fun e he => ?_⟩ (by omega) ⟨rfl, by simp, ?_, ?_⟩
            · rw [List.take_succ_eq_append_getElem hjl] at he
              rcases List.mem_append.1 he with he | he
              · exact hpj e he
              · simp at he; subst he; exact hlp
            · (repeat' (first | exact leSlots_nil | refine leSlots_cons ?_ rfl ?_)) <;> (first | exact DLeT.refl _ _ | (refine (DLe.p ?_).t _; (simp; done)) | skip)
            · (repeat' (first | exact leHeap_nil | refine leHeap_cons rfl ?_ rfl rfl ?_)) <;> (first | exact BLeT.refl _ | (refine BLeT.eq ?_; (simp; done)) | skip)
        · have h2 : j = k := by simp at h2; omega
          subst h2
          conv => whnf
          refine wrapP_intro (wrap64 (by first | omega | (dsimp only; omega) | (simp only [List.length_map]; omega)) (by first | omega | (dsimp only; omega) | (simp only [List.length_map]; omega))) ?_
          conv => whnf
          refine hR _ _ _ (j + 1) ⟨h1, fun i hi => ?_⟩ (by omega) ⟨rfl, by simp, ?_, ?_⟩
          · by_cases hij : i < j
            · exact hp i hij
            · have : i = j := by omega
              subst this
              rw [lostAt, List.getElem?_eq_getElem h1]
              rw [List.any_eq_false]
              intro x hx
              rw [hpj x hx]; simp
          · (repeat' (first | exact leSlots_nil | refine leSlots_cons ?_ rfl ?_)) <;> (first | exact DLeT.refl _ _ | (refine (DLe.p ?_).t _; (simp; done)) | skip)
          · (repeat' (first | exact leHeap_nil | refine leHeap_cons rfl ?_ rfl rfl ?_)) <;> (first | exact BLeT.refl _ | (refine BLeT.eq ?_; (simp; done)) | skip)
    · have h1 : k = (takesL h).length := by simp at h1; omega
      subst h1
      conv => whnf
      refine DoneLe.p ?_
      have : lostB h = false := by
        rw [lostB, List.any_eq_false]
        intro i hi
        rw [hp i (List.mem_range.1 hi)]; simp
      rw [this]
end Qa.S43

set_option maxRecDepth 100000
namespace Qa.S43
open Go Go.Proofs

-- the dependencies are of transactions
theorem compTo_sub (l : List Ed) : ∀ m, ∀ e ∈ compTo l m, e ∈ l
  | 0, e, he => by simp [compTo] at he
  | m + 1, e, he => by
    simp only [compTo] at he
    split at he
    · exact compTo_sub l m e he
    · rename_i x hx
      split at he
      · exact compTo_sub l m e he
      · rcases List.mem_append.1 he with he | he
        · exact compTo_sub l m e he
        · simp at he; subst he; exact List.mem_of_getElem? hx

theorem verStep_lt {done : Nat → Bool} {key : Int} {out : List Int} {x : Ev} (h : ∀ t ∈ out, t < 5) (hx : x.tr < 5) : ∀ t ∈ verStep done key out x, t < 5 := by
  intro t ht
  unfold verStep at ht
  split at ht
  · rcases List.mem_append.1 ht with ht | ht
    · exact h t (List.mem_filter.1 ht).1
    · simp at ht; subst ht; exact hx
  · exact h t ht
theorem versionsL_lt {h : Hist} (hv : h.ok) (key : Int) : ∀ t ∈ versionsL h key, t < 5 := by
  have : ∀ (l : List Ev) (out : List Int), (∀ e ∈ l, e.tr < 5) → (∀ t ∈ out, t < 5) → ∀ t ∈ l.foldl (verStep (doneF h.events) key) out, t < 5 := by
    intro l
    induction l with
    | nil => intro out _ h t ht; exact h t ht
    | cons x l ih =>
      intro out hl ho
      exact ih _ (fun e he => hl e (by simp [he])) (verStep_lt ho (hl x (by simp)))
  exact this _ _ (fun e he => (hv.2.2 e he).2) (by simp)
theorem takeStep_all {done : Nat → Bool} {out : List Tk} {x : Ev} (p : Tk → Prop) (h : ∀ t ∈ out, p t) (hx : takeOk done x = true → p x.tk) : ∀ t ∈ takeStep done out x, p t := by
  intro t ht
  unfold takeStep at ht
  split at ht
  · rename_i hok
    split at ht
    · exact h t ht
    · rcases List.mem_append.1 ht with ht | ht
      · exact h t ht
      · simp at ht; subst ht; exact hx hok
  · exact h t ht
theorem takesL_all {h : Hist} (p : Tk → Prop) (hx : ∀ e ∈ h.events, takeOk (doneF h.events) e = true → p e.tk) : ∀ t ∈ takesL h, p t := by
  have : ∀ (l : List Ev) (out : List Tk), (∀ e ∈ l, takeOk (doneF h.events) e = true → p e.tk) → (∀ t ∈ out, p t) → ∀ t ∈ l.foldl (takeStep (doneF h.events)) out, p t := by
    intro l
    induction l with
    | nil => intro out _ h t ht; exact h t ht
    | cons x l ih =>
      intro out hl ho
      exact ih _ (fun e he => hl e (by simp [he])) (takeStep_all p ho (hl x (by simp)))
  exact this _ _ hx (by simp)

theorem getD_lt {l : List Int} (h : ∀ t ∈ l, t < 5) (i : Nat) : l.getD i 0 < 5 := by
  rw [List.getD_eq_getElem?_getD]
  cases hi : l[i]? with
  | none => simp
  | some x => exact h x (List.mem_of_getElem? hi)

theorem rawE_good {h : Hist} (hv : h.ok) (hf : h.okF) : ∀ e ∈ rawE h, e.good := by
  intro e he
  obtain ⟨he, hok⟩ := List.mem_filter.1 he
  have hok : 0 ≤ e.fr ∧ 0 ≤ e.to := by
    simp [Ed.ok, addB] at hok; exact hok.1
  suffices e.fr < 5 ∧ e.to < 5 from ⟨hok.1, this.1, hok.2, this.2⟩
  rcases List.mem_append.1 he with he | he
  · simp only [cand1, List.mem_flatMap] at he
    obtain ⟨k, _, he⟩ := he
    simp only [wEds, List.mem_map] at he
    obtain ⟨i, _, rfl⟩ := he
    exact ⟨getD_lt (versionsL_lt hv _) _, getD_lt (versionsL_lt hv _) _⟩
  · simp only [cand2, List.mem_flatMap] at he
    obtain ⟨t, ht, he⟩ := he
    have ht := List.mem_of_mem_take ht
    have hp := takesL_all (h := h) (fun t => t.by_ < 5 ∧ t.fr < 5) (fun x hx hk => by
      simp only [takeOk, Bool.and_eq_true, beq_iff_eq] at hk
      exact ⟨(hv.2.2 x hx).2, hf x hx hk.1.1.1⟩) t ht
    unfold tEds at he
    split at he
    · simp at he
      rcases he with rfl | rfl
      · exact ⟨hp.2, hp.1⟩
      · exact ⟨hp.1, getD_lt (versionsL_lt hv _) _⟩
    · simp at he
      subst he
      exact ⟨hp.2, hp.1⟩
theorem edgesL_good {h : Hist} (hv : h.ok) (hf : h.okF) : ∀ e ∈ edgesL h, e.good := fun e he => by
  have h1 := compTo_sub _ _ e he
  exact rawE_good hv hf e (by simpa [sortE] using h1)
theorem edgesL_len {h : Hist} (hv : h.ok) : (edgesL h).length ≤ 10000 := by
  have h1 := compTo_len (sortE (rawE h)) (sortE (rawE h)).length
  have h2 : (sortE (rawE h)).length = (rawE h).length := List.length_mergeSort _
  have h3 := List.length_filter_le Ed.ok (cand1 h h.start.length ++ cand2 h (takesL h).length)
  have h4 := cand1_len h hv.2.1 h.start.length
  have h5 := cand2_len h (takesL h).length (Nat.le_refl _)
  have h6 := takesL_len h hv.2.1
  have h7 := hv.1
  rw [List.length_append] at h3
  show (compL (sortE (rawE h))).length ≤ _
  change (compL (sortE (rawE h))).length ≤ _ at h1
  change (rawE h).length ≤ _ at h3
  omega

-- anomalies
def gK (h : Hist) (ks : List Int) : Nat → Bool := ofG (edgesL h) ks
def anomF (h : Hist) (n : Int) : Bool :=
  if n = 1 then (circleL (gK h [1])).isSome else if n = 2 then abortB h else if n = 3 then betwB h else if n = 4 then (circleL (gK h [1, 2])).isSome
  else if n = 5 then lostB h else if n = 6 then singleB (gK h [1, 2, 3]) else if n = 7 then (circleL (gK h [1, 2, 3])).isSome else false
def anomM (h : Hist) : MapF := ([1, 2, 3, 4, 5, 6, 7] : List Int).foldl (fun m n => mput m (.int .i64 n) (.bool (anomF h n))) mnil
def anomL (h : Hist) : List Int := ([1, 2, 3, 4, 5, 6, 7] : List Int).filter (anomF h)

theorem anomM_get (h : Hist) (n : Nat) (h1 : 1 ≤ n) (h7 : n ≤ 7) : (anomM h (.int .i64 n)).getD (.bool false) = .bool (anomF h n) := by
  match n, h1, h7 with
  | 1, _, _ | 2, _, _ | 3, _, _ | 4, _, _ | 5, _, _ | 6, _, _ | 7, _, _ => simp [anomM, mput, keyEq, kEq]

def anomTo (h : Hist) (k : Nat) : List Int := (([1, 2, 3, 4, 5, 6, 7] : List Int).take k).filter (anomF h)
theorem anomTo_succ (h : Hist) (k : Nat) (hk : k < 7) : anomTo h (k + 1) = anomTo h k ++ (if anomF h ((k : Int) + 1) then [(k : Int) + 1] else []) := by
  have e : (([1, 2, 3, 4, 5, 6, 7] : List Int).take (k + 1)) = ([1, 2, 3, 4, 5, 6, 7] : List Int).take k ++ [(k : Int) + 1] := by
    match k, hk with
    | 0, _ | 1, _ | 2, _ | 3, _ | 4, _ | 5, _ | 6, _ => rfl
  rw [anomTo, e, List.filter_append]
  simp only [anomTo]
  cases hf : anomF h ((k : Int) + 1) <;> simp [hf]
theorem anomTo_len (h : Hist) (k : Nat) : (anomTo h k).length ≤ 7 := by
  refine Nat.le_trans (List.length_filter_le _ _) ?_
  simp; omega

theorem anomalies_ac (h : Hist) (hv : h.ok) (hf : h.okF) : AC Try.prog 27 [.p h.enc] [] (.p (ints (anomL h))) [] := by
  have hg := edgesL_good hv hf
  have hel := edgesL_len hv
  refine AC.body T_ok mx_ok Try.func27 rfl rfl rfl rfl rfl rfl ?_
  conv => whnf
  refine (edges_ac h hv hf).callP (by (repeat' (first | exact trivial | refine ⟨DLe.refl _, ?_⟩ | refine ⟨DLe.acc _ _, ?_⟩ | refine ⟨DLe.full _, ?_⟩ | refine ⟨DLe.nil, ?_⟩ | (refine ⟨DLe.p ?_, ?_⟩; focus (simp; done))))) ?_
  conv => whnf
  refine needP_intro (fun x hx => by simp at hx; rcases hx with rfl | rfl | rfl <;> rfl) ?_
  conv => whnf
  refine (of_ac (edgesL h) [1, 2, 3] hg (by omega) (by simp)).callP ⟨DLe.refl _, (DLe.full _).trans (DLe.p rfl), trivial⟩ ?_
  conv => whnf
  refine (odd_ac h hv hf).callP (by (repeat' (first | exact trivial | refine ⟨DLe.refl _, ?_⟩ | refine ⟨DLe.acc _ _, ?_⟩ | refine ⟨DLe.full _, ?_⟩ | refine ⟨DLe.nil, ?_⟩ | (refine ⟨DLe.p ?_, ?_⟩; focus (simp; done))))) ?_
  conv => whnf
  refine needP_intro (fun x hx => by simp at hx; subst hx; rfl) ?_
  conv => whnf
  refine (of_ac (edgesL h) [1] hg (by omega) (by simp)).callP ⟨DLe.refl _, (DLe.full _).trans (DLe.p rfl), trivial⟩ ?_
  conv => whnf
  refine (circle_ac (ofG (edgesL h) [1])).callP ⟨DLe.refl _, trivial⟩ ?_
  cases hc1 : circleL (ofG (edgesL h) [1])
  all_goals (conv => whnf)
  all_goals (first | (refine needP_intro (map_ne (circle_ne hc1)) ?_; conv => whnf) | skip)
  all_goals (refine needP_intro (fun x hx => by simp at hx; rcases hx with rfl | rfl <;> rfl) ?_; conv => whnf)
  all_goals (refine (of_ac (edgesL h) [1, 2] hg (by omega) (by simp)).callP ⟨DLe.refl _, (DLe.full _).trans (DLe.p rfl), trivial⟩ ?_; conv => whnf)
  all_goals (refine (circle_ac (ofG (edgesL h) [1, 2])).callP ⟨DLe.refl _, trivial⟩ ?_)
  all_goals (cases hc2 : circleL (ofG (edgesL h) [1, 2]))
  all_goals (conv => whnf)
  all_goals (first | (refine needP_intro (map_ne (circle_ne hc2)) ?_; conv => whnf) | skip)
  all_goals (refine (lost_ac h hv hf).callP ⟨DLe.refl _, trivial⟩ ?_; conv => whnf)
  all_goals (refine (single_ac (ofG (edgesL h) [1, 2, 3])).callP ⟨DLe.refl _, trivial⟩ ?_; conv => whnf)
  all_goals (refine (circle_ac (ofG (edgesL h) [1, 2, 3])).callP ⟨DLe.refl _, trivial⟩ ?_)
  all_goals (cases hc3 : circleL (ofG (edgesL h) [1, 2, 3]))
  all_goals (conv => whnf)
  all_goals (first | (refine needP_intro (map_ne (circle_ne hc3)) ?_; conv => whnf) | skip)
  all_goals (refine needP_intro (by kernel_rfl) ?_; conv => whnf)
  all_goals (refine loop_fam (ι := Nat) (fun k => [(7, .map 2), (8, .acc 3 ((anomTo h k).map (.int .i64))), (9, i64 ((k : Int) + 1))]) (fun k => [(2, .map (.int .i64) (anomM h)), (3, .tok 3 1 (anomTo h k).length)]) 4
                (fun k => k ≤ 7) (fun k => 7 - k) 0 [3] (Nat.zero_le _) ⟨rfl, by simp, ?_, ?_⟩ ?_)
  all_goals first
    | exact leSlots_cons (DLeT.refl _ _) rfl (leSlots_cons (DLeT.nil (by simp)) rfl (leSlots_cons ((DLe.p (by simp)).t _) rfl leSlots_nil))
    | (refine leHeap_cons rfl (BLeT.eq ?_) rfl rfl (leHeap_tok (by simp) rfl leHeap_nil)
       simp [anomM, anomF, gK, hc1, hc2, hc3]
       rfl)
    | skip
  all_goals
    rintro k hk R hR
    conv => whnf
    refine condB_split (fun h1 => ?_) (fun h1 => ?_)
    · have h1 : k < 7 := by simp at h1; omega
      conv => whnf
      refine lookP_intro (.bool (anomF h ((k : Int) + 1))) (by have := anomM_get h (k + 1) (by omega) (by omega); simpa using this) ?_
      conv => whnf
      have hal := anomTo_len h k
      refine condB_split (fun h2 => ?_) (fun h2 => ?_)
      · conv => whnf
        refine needP_intro (fun z hz => by simp at hz; subst hz; rfl) ?_
        conv => whnf
        refine needP_intro (⟨by simp, fun z hz => by simp at hz; rcases hz with ⟨a, _, rfl⟩ | rfl <;> rfl, by simp; omega⟩) ?_
        conv => whnf
        refine wrapP_intro (wrap64 (by first | omega | (dsimp only; omega) | (simp only [List.length_map]; omega)) (by first | omega | (dsimp only; omega) | (simp only [List.length_map]; omega))) ?_
        conv => whnf
        refine hR _ _ _ (k + 1) h1 (by omega) ⟨rfl, by simp, ?_, ?_⟩
        · refine leSlots_cons (DLeT.refl _ _) rfl (leSlots_cons ((DLe.eq ?_).t _) rfl ?_)
          · rw [anomTo_succ h k h1, h2]; simp; rfl
          (repeat' (first | exact leSlots_nil | refine leSlots_cons ?_ rfl ?_)) <;> (first | exact DLeT.refl _ _ | (refine (DLe.p ?_).t _; (simp; done)) | skip)
        · refine leHeap_cons rfl (BLeT.refl _) rfl rfl (leHeap_cons rfl (BLeT.eq ?_) rfl rfl leHeap_nil)
          rw [anomTo_succ h k h1, h2]; simp
      · conv => whnf
        refine wrapP_intro (wrap64 (by first | omega | (dsimp only; omega) | (simp only [List.length_map]; omega)) (by first | omega | (dsimp only; omega) | (simp only [List.length_map]; omega))) ?_
        conv => whnf
        have e : anomTo h (k + 1) = anomTo h k := by rw [anomTo_succ h k h1, h2]; simp
        refine hR _ _ _ (k + 1) h1 (by omega) ?_
        rw [e]
        refine ⟨rfl, by simp, ?_, ?_⟩
        · (repeat' (first | exact leSlots_nil | refine leSlots_cons ?_ rfl ?_)) <;> (first | exact DLeT.refl _ _ | (refine (DLe.p ?_).t _; (simp; done)) | skip)
        · (repeat' (first | exact leHeap_nil | refine leHeap_cons rfl ?_ rfl rfl ?_)) <;> (first | exact BLeT.refl _ | (refine BLeT.eq ?_; (simp; done)) | skip)
    · have h1 : k = 7 := by simp at h1; omega
      subst h1
      conv => whnf
      exact DoneLe.pure (DLe.acc _ _) (fun _ => rfl) rfl
end Qa.S43

set_option maxRecDepth 100000
namespace Qa.S43
open Go Go.Proofs

theorem valid_okF {h : Hist} (hv : validB h = true) : h.okF := by
  have hk := valid_ok hv
  simp only [validB, Bool.and_eq_true, decide_eq_true_eq, List.all_eq_true, List.mem_range] at hv
  obtain ⟨⟨h1, h2⟩, h3⟩ := hv
  intro e he h4
  obtain ⟨i, hi⟩ := List.getElem?_of_mem he
  have := h3 i (List.getElem?_eq_some_iff.1 hi).1
  rw [hi] at this
  have this : rightB h (h.events.take i) e = true := this
  have htr := hk.2.2 e he
  unfold rightB at this
  split at this
  · cases this
  split at this
  · cases this
  split at this
  · cases this
  rw [if_neg (by omega), if_neg (by omega)] at this
  simp only [Bool.and_eq_true, decide_eq_true_eq] at this
  have h5 := this.2
  unfold readsB at h5
  split at h5
  · simp at h5; omega
  · split at h5
    · rename_i h6; simp at h6; omega
    · simp at h5
      obtain ⟨_, w, hw, h6⟩ := h5
      simp [isW] at h6
      have := hk.2.2 w (List.mem_of_mem_take hw)
      omega

theorem anomL_len (h : Hist) : (anomL h).length ≤ 7 := List.length_filter_le _ _

theorem anomaliesF_ac (h : Hist) (hv : validB h = true) : AC Try.prog 13 [.p h.enc] [] (.tup [.p (ints (anomL h)), i64 0]) [] := by
  have hvt := valid_ac h
  rw [hv] at hvt
  refine AC.body T_ok mx_ok Try.func13 rfl rfl rfl rfl rfl rfl ?_
  conv => whnf
  refine (hvt).callP (by (repeat' (first | exact trivial | refine ⟨DLe.refl _, ?_⟩ | refine ⟨DLe.acc _ _, ?_⟩ | refine ⟨DLe.full _, ?_⟩ | refine ⟨DLe.nil, ?_⟩ | (refine ⟨DLe.p ?_, ?_⟩; focus (simp; done))))) ?_
  conv => whnf
  refine (anomalies_ac h (valid_ok hv) (valid_okF hv)).callP (by (repeat' (first | exact trivial | refine ⟨DLe.refl _, ?_⟩ | refine ⟨DLe.acc _ _, ?_⟩ | refine ⟨DLe.full _, ?_⟩ | refine ⟨DLe.nil, ?_⟩ | (refine ⟨DLe.p ?_, ?_⟩; focus (simp; done))))) ?_
  conv => whnf
  exact DoneLe.pure (DLe.refl _) (fun _ => rfl) rfl

theorem anomalyF_ac (h : Hist) (hv : validB h = true) : AC Try.prog 14 [.p h.enc] [] (.tup [i64 ((anomL h).headD 0), i64 0]) [] := by
  refine AC.body T_ok mx_ok Try.func14 rfl rfl rfl rfl rfl rfl ?_
  conv => whnf
  refine (anomaliesF_ac h hv).callP (by (repeat' (first | exact trivial | refine ⟨DLe.refl _, ?_⟩ | refine ⟨DLe.acc _ _, ?_⟩ | refine ⟨DLe.full _, ?_⟩ | refine ⟨DLe.nil, ?_⟩ | (refine ⟨DLe.p ?_, ?_⟩; focus (simp; done))))) ?_
  conv => whnf
  refine condB_split (fun h1 => ?_) (fun h1 => ?_)
  · have h1 : (anomL h) = [] := by simpa using h1
    conv => whnf
    rw [h1]
    exact DoneLe.pure (DLe.refl _) (fun _ => rfl) rfl
  · have h1 : (anomL h) ≠ [] := by simpa using h1
    conv => whnf
    cases hl : anomL h with
    | nil => exact absurd hl h1
    | cons x l =>
      refine getP_intro (.int .i64 x) (by first | omega | (dsimp only; omega) | (simp only [List.length_map]; omega)) (rfl) ?_
      conv => whnf
      exact DoneLe.pure (DLe.refl _) (fun _ => rfl) rfl

theorem edgesF_ac (h : Hist) (hv : validB h = true) : AC Try.prog 23 [.p h.enc] [] (.tup [.p (eds (edgesL h)), i64 0]) [] := by
  have hvt := valid_ac h
  rw [hv] at hvt
  refine AC.body T_ok mx_ok Try.func23 rfl rfl rfl rfl rfl rfl ?_
  conv => whnf
  refine (hvt).callP (by (repeat' (first | exact trivial | refine ⟨DLe.refl _, ?_⟩ | refine ⟨DLe.acc _ _, ?_⟩ | refine ⟨DLe.full _, ?_⟩ | refine ⟨DLe.nil, ?_⟩ | (refine ⟨DLe.p ?_, ?_⟩; focus (simp; done))))) ?_
  conv => whnf
  refine (edges_ac h (valid_ok hv) (valid_okF hv)).callP (by (repeat' (first | exact trivial | refine ⟨DLe.refl _, ?_⟩ | refine ⟨DLe.acc _ _, ?_⟩ | refine ⟨DLe.full _, ?_⟩ | refine ⟨DLe.nil, ?_⟩ | (refine ⟨DLe.p ?_, ?_⟩; focus (simp; done))))) ?_
  conv => whnf
  exact DoneLe.pure (DLe.refl _) (fun _ => rfl) rfl

def circR : Option (List Int) → D
  | none => .tup [.nilsl, i64 12]
  | some l => .tup [.p (ints l), i64 0]

theorem circleF_ac (h : Hist) (hv : validB h = true) : AC Try.prog 24 [.p h.enc] [] (circR (circleL (gK h [1, 2, 3]))) [] := by
  have hvt := valid_ac h
  rw [hv] at hvt
  have hg := edgesL_good (valid_ok hv) (valid_okF hv)
  have hel := edgesL_len (valid_ok hv)
  refine AC.body T_ok mx_ok Try.func24 rfl rfl rfl rfl rfl rfl ?_
  conv => whnf
  refine (hvt).callP (by (repeat' (first | exact trivial | refine ⟨DLe.refl _, ?_⟩ | refine ⟨DLe.acc _ _, ?_⟩ | refine ⟨DLe.full _, ?_⟩ | refine ⟨DLe.nil, ?_⟩ | (refine ⟨DLe.p ?_, ?_⟩; focus (simp; done))))) ?_
  conv => whnf
  refine (edges_ac h (valid_ok hv) (valid_okF hv)).callP (by (repeat' (first | exact trivial | refine ⟨DLe.refl _, ?_⟩ | refine ⟨DLe.acc _ _, ?_⟩ | refine ⟨DLe.full _, ?_⟩ | refine ⟨DLe.nil, ?_⟩ | (refine ⟨DLe.p ?_, ?_⟩; focus (simp; done))))) ?_
  conv => whnf
  refine needP_intro (fun x hx => by simp at hx; rcases hx with rfl | rfl | rfl <;> rfl) ?_
  conv => whnf
  refine (of_ac (edgesL h) [1, 2, 3] hg (by omega) (by simp)).callP ⟨DLe.refl _, (DLe.full _).trans (DLe.p rfl), trivial⟩ ?_
  conv => whnf
  refine (circle_ac (ofG (edgesL h) [1, 2, 3])).callP ⟨DLe.refl _, trivial⟩ ?_
  unfold gK
  cases hc1 : circleL (ofG (edgesL h) [1, 2, 3])
  · conv => whnf
    exact DoneLe.pure (DLe.refl _) (fun _ => rfl) rfl
  · conv => whnf
    refine needP_intro (map_ne (circle_ne hc1)) ?_
    conv => whnf
    exact DoneLe.pure (DLe.refl _) (fun _ => rfl) rfl

theorem check1_ac (l : List Int) (hl : l.length ≤ 1000000) (x : Int) : AC Try.prog 28 [i64 x, .ref 0 0] [.cells 22 [.p (ints l)]] (.p (.bool (l.contains x))) [.cells 22 [.p (ints l)]] := by
  refine AC.body T_ok mx_ok Try.func28 rfl rfl rfl rfl rfl rfl ?_
  conv => whnf
  refine (contains_ac l x hl).callP (by (repeat' (first | exact trivial | refine ⟨DLe.refl _, ?_⟩ | refine ⟨DLe.acc _ _, ?_⟩ | refine ⟨DLe.full _, ?_⟩ | refine ⟨DLe.nil, ?_⟩ | (refine ⟨DLe.p ?_, ?_⟩; focus (simp; done))))) ?_
  conv => whnf
  exact DoneLe.mk [0] rfl rfl (ldHeap_cons rfl (BLe.refl _) rfl ldHeap_nil) (DLe.refl _) rfl rfl

/-- what Check says of a history that is valid. -/
def checkB (c1 c2 c3 c4 c5 c6 em : Bool) (v : Int) : Bool :=
  let bad := c1 || c2 || c3 || c4
  if v = 1 then !bad else if v = 2 then !bad && !c5 && !c6 else if v = 3 then em else false
def checkL (l : List Int) (v : Int) : Bool := checkB (l.contains 1) (l.contains 2) (l.contains 3) (l.contains 4) (l.contains 5) (l.contains 6) l.isEmpty v
theorem bP {a b : Bool} (h : a = b) : resD [D.p (Pd.bool a)] = D.p (Pd.bool b) := by rw [h]; rfl
theorem isE (l : List Int) : decide ((l.length : Int) = 0) = l.isEmpty := by cases l <;> simp; omega

theorem check_ac (h : Hist) (hv : validB h = true) (v : Int) : AC Try.prog 10 [i64 v, .p h.enc] [] (.p (.bool (checkL (anomL h) v))) [] := by
  have hvt := valid_ac h
  rw [hv] at hvt
  have hl := anomL_len h
  refine AC.body T_ok mx_ok Try.func10 rfl rfl rfl rfl rfl rfl ?_
  conv => whnf
  refine (hvt).callP (by (repeat' (first | exact trivial | refine ⟨DLe.refl _, ?_⟩ | refine ⟨DLe.acc _ _, ?_⟩ | refine ⟨DLe.full _, ?_⟩ | refine ⟨DLe.nil, ?_⟩ | (refine ⟨DLe.p ?_, ?_⟩; focus (simp; done))))) ?_
  conv => whnf
  refine (anomalies_ac h (valid_ok hv) (valid_okF hv)).callP (by (repeat' (first | exact trivial | refine ⟨DLe.refl _, ?_⟩ | refine ⟨DLe.acc _ _, ?_⟩ | refine ⟨DLe.full _, ?_⟩ | refine ⟨DLe.nil, ?_⟩ | (refine ⟨DLe.p ?_, ?_⟩; focus (simp; done))))) ?_
  conv => whnf
  refine (check1_ac (anomL h) (by omega) 1).call [1] rfl ⟨DLe.refl _, DLe.refl _, trivial⟩ (ldHeap_cons rfl (BLe.refl _) rfl ldHeap_nil) ?_
  conv => whnf
  refine condB_split (fun h1 => ?_) (fun h1 => ?_)
  · conv => whnf
    refine condB_split (fun k1 => ?_) (fun k1 => ?_)
    · have k1 : v = 1 := by simpa using k1
      conv => whnf
      refine DoneLe.pure (DLe.eq (bP ?_)) (fun _ => rfl) rfl
      unfold checkL
      simp only [k1, h1]
      simp [checkB, k1, h1]
      done
    have k1 : ¬ v = 1 := by simpa using k1
    conv => whnf
    refine condB_split (fun k2 => ?_) (fun k2 => ?_)
    · have k2 : v = 2 := by simpa using k2
      conv => whnf
      refine DoneLe.pure (DLe.eq (bP ?_)) (fun _ => rfl) rfl
      unfold checkL
      simp only [k2, h1]
      simp [checkB, k2, h1]
      done
    have k2 : ¬ v = 2 := by simpa using k2
    conv => whnf
    refine condB_split (fun k3 => ?_) (fun k3 => ?_)
    · have k3 : v = 3 := by simpa using k3
      conv => whnf
      exact DoneLe.pure (DLe.eq (bP (by
        unfold checkL
        rw [k3, ← isE, List.length_map]
        simp [checkB]
        done))) (fun _ => rfl) rfl
    have k3 : ¬ v = 3 := by simpa using k3
    conv => whnf
    refine DoneLe.pure (DLe.eq (bP ?_)) (fun _ => rfl) rfl
    unfold checkL
    simp only [k1, k2, k3, h1]
    simp [checkB, k1, k2, k3, h1]
    done
  conv => whnf
  refine (check1_ac (anomL h) (by omega) 2).call [1] rfl ⟨DLe.refl _, DLe.refl _, trivial⟩ (ldHeap_cons rfl (BLe.refl _) rfl ldHeap_nil) ?_
  conv => whnf
  refine condB_split (fun h2 => ?_) (fun h2 => ?_)
  · have h2 : (anomL h).contains 2 = true := h2
    conv => whnf
    refine condB_split (fun k1 => ?_) (fun k1 => ?_)
    · have k1 : v = 1 := by simpa using k1
      conv => whnf
      refine DoneLe.pure (DLe.eq (bP ?_)) (fun _ => rfl) rfl
      unfold checkL
      simp only [k1, h2]
      simp [checkB, k1, h2]
      done
    have k1 : ¬ v = 1 := by simpa using k1
    conv => whnf
    refine condB_split (fun k2 => ?_) (fun k2 => ?_)
    · have k2 : v = 2 := by simpa using k2
      conv => whnf
      refine DoneLe.pure (DLe.eq (bP ?_)) (fun _ => rfl) rfl
      unfold checkL
      simp only [k2, h2]
      simp [checkB, k2, h2]
      done
    have k2 : ¬ v = 2 := by simpa using k2
    conv => whnf
    refine condB_split (fun k3 => ?_) (fun k3 => ?_)
    · have k3 : v = 3 := by simpa using k3
      conv => whnf
      exact DoneLe.pure (DLe.eq (bP (by
        unfold checkL
        rw [k3, ← isE, List.length_map]
        simp [checkB]
        done))) (fun _ => rfl) rfl
    have k3 : ¬ v = 3 := by simpa using k3
    conv => whnf
    refine DoneLe.pure (DLe.eq (bP ?_)) (fun _ => rfl) rfl
    unfold checkL
    simp only [k1, k2, k3, h2]
    simp [checkB, k1, k2, k3, h2]
    done
  have h2 : (anomL h).contains 2 = false := h2
  conv => whnf
  refine (check1_ac (anomL h) (by omega) 3).call [1] rfl ⟨DLe.refl _, DLe.refl _, trivial⟩ (ldHeap_cons rfl (BLe.refl _) rfl ldHeap_nil) ?_
  conv => whnf
  refine condB_split (fun h3 => ?_) (fun h3 => ?_)
  · have h3 : (anomL h).contains 3 = true := h3
    conv => whnf
    refine condB_split (fun k1 => ?_) (fun k1 => ?_)
    · have k1 : v = 1 := by simpa using k1
      conv => whnf
      refine DoneLe.pure (DLe.eq (bP ?_)) (fun _ => rfl) rfl
      unfold checkL
      simp only [k1, h3]
      simp [checkB, k1, h3]
      done
    have k1 : ¬ v = 1 := by simpa using k1
    conv => whnf
    refine condB_split (fun k2 => ?_) (fun k2 => ?_)
    · have k2 : v = 2 := by simpa using k2
      conv => whnf
      refine DoneLe.pure (DLe.eq (bP ?_)) (fun _ => rfl) rfl
      unfold checkL
      simp only [k2, h3]
      simp [checkB, k2, h3]
      done
    have k2 : ¬ v = 2 := by simpa using k2
    conv => whnf
    refine condB_split (fun k3 => ?_) (fun k3 => ?_)
    · have k3 : v = 3 := by simpa using k3
      conv => whnf
      exact DoneLe.pure (DLe.eq (bP (by
        unfold checkL
        rw [k3, ← isE, List.length_map]
        simp [checkB]
        done))) (fun _ => rfl) rfl
    have k3 : ¬ v = 3 := by simpa using k3
    conv => whnf
    refine DoneLe.pure (DLe.eq (bP ?_)) (fun _ => rfl) rfl
    unfold checkL
    simp only [k1, k2, k3, h3]
    simp [checkB, k1, k2, k3, h3]
    done
  have h3 : (anomL h).contains 3 = false := h3
  conv => whnf
  refine (check1_ac (anomL h) (by omega) 4).call [1] rfl ⟨DLe.refl _, DLe.refl _, trivial⟩ (ldHeap_cons rfl (BLe.refl _) rfl ldHeap_nil) ?_
  conv => whnf
  refine condB_split (fun k1 => ?_) (fun k1 => ?_)
  · have k1 : v = 1 := by simpa using k1
    conv => whnf
    refine DoneLe.pure (DLe.eq (bP ?_)) (fun _ => rfl) rfl
    unfold checkL
    simp only [k1, h1, h2, h3]
    simp [checkB, k1, h1, h2, h3]
    done
  have k1 : ¬ v = 1 := by simpa using k1
  conv => whnf
  refine condB_split (fun k2 => ?_) (fun k2 => ?_)
  · have k2 : v = 2 := by simpa using k2
    conv => whnf
    refine condB_split (fun h4 => ?_) (fun h4 => ?_)
    · conv => whnf
      have h4 : (anomL h).contains 4 = false := by cases hq : (anomL h).contains 4 <;> simp_all
      refine (check1_ac (anomL h) (by omega) 5).call [1] rfl ⟨DLe.refl _, DLe.refl _, trivial⟩ (ldHeap_cons rfl (BLe.refl _) rfl ldHeap_nil) ?_
      conv => whnf
      refine condB_split (fun h5 => ?_) (fun h5 => ?_)
      · have h5 : (anomL h).contains 5 = false := by cases hq : (anomL h).contains 5 <;> simp_all
        conv => whnf
        refine (check1_ac (anomL h) (by omega) 6).call [1] rfl ⟨DLe.refl _, DLe.refl _, trivial⟩ (ldHeap_cons rfl (BLe.refl _) rfl ldHeap_nil) ?_
        conv => whnf
        refine DoneLe.pure (DLe.eq (bP ?_)) (fun _ => rfl) rfl
        unfold checkL
        simp only [k2, h1, h2, h3, h4, h5]
        simp [checkB, k2, h1, h2, h3, h4, h5]
        done
      · have h5 : (anomL h).contains 5 = true := by cases hq : (anomL h).contains 5 <;> simp_all
        conv => whnf
        refine DoneLe.pure (DLe.eq (bP ?_)) (fun _ => rfl) rfl
        unfold checkL
        simp only [k2, h1, h2, h3, h4, h5]
        simp [checkB, k2, h1, h2, h3, h4, h5]
        done
    · have h4 : (anomL h).contains 4 = true := by cases hq : (anomL h).contains 4 <;> simp_all
      conv => whnf
      refine DoneLe.pure (DLe.eq (bP ?_)) (fun _ => rfl) rfl
      unfold checkL
      simp only [k2, h1, h2, h3, h4]
      simp [checkB, k2, h1, h2, h3, h4]
      done
  have k2 : ¬ v = 2 := by simpa using k2
  conv => whnf
  refine condB_split (fun k3 => ?_) (fun k3 => ?_)
  · have k3 : v = 3 := by simpa using k3
    conv => whnf
    exact DoneLe.pure (DLe.eq (bP (by
      unfold checkL
      rw [k3, ← isE, List.length_map]
      simp [checkB]
      done))) (fun _ => rfl) rfl
  have k3 : ¬ v = 3 := by simpa using k3
  conv => whnf
  refine DoneLe.pure (DLe.eq (bP ?_)) (fun _ => rfl) rfl
  simp [checkL, checkB, k1, k2, k3]
end Qa.S43

set_option maxRecDepth 100000
namespace Qa.S43
open Go Go.Proofs

def startTo (t : Tape) : Nat → List Int × Tape
  | 0 => ([], t)
  | k + 1 => ((startTo t k).1 ++ [((startTo t k).2.pick [0, 1, 5, -2]).1], ((startTo t k).2.pick [0, 1, 5, -2]).2)
theorem startTo_len (t : Tape) : ∀ k, (startTo t k).1.length = k
  | 0 => rfl
  | k + 1 => by simp [startTo, startTo_len t k]
theorem startTo_ok {t : Tape} (h : t.ok) : ∀ k, (startTo t k).2.ok
  | 0 => h
  | k + 1 => Tape.pick_ok (startTo_ok h k) [0, 1, 5, -2]
def Tape.start (t : Tape) : List Int × Tape := startTo (t.range 1 3).2 (t.range 1 3).1.toNat
theorem Tape.start_ok {t : Tape} (h : t.ok) : t.start.2.ok := startTo_ok (Tape.range_ok h _ _) _
theorem Tape.start_len (t : Tape) : 1 ≤ t.start.1.length ∧ t.start.1.length ≤ 3 := by
  have := t.range_in (show (1 : Int) ≤ 3 by omega)
  simp only [Tape.start, startTo_len]
  omega

theorem iSub {a b : Int} (h : a = b) : D.p (.int .i64 a) = i64 b := by rw [h]
theorem start_ac (t : Tape) (h : t.ok) : AC Try.prog 15 [.ref 0 0] [t.blk] (.p (ints t.start.1)) [t.start.2.blk] := by
  have hr := t.range_in (show (1 : Int) ≤ 3 by omega)
  obtain ⟨n, hn⟩ : ∃ n : Nat, (t.range 1 3).1 = n := ⟨(t.range 1 3).1.toNat, by omega⟩
  have e0 : t.start = startTo (t.range 1 3).2 n := by simp [Tape.start, hn]
  have ho := Tape.range_ok h 1 3
  rw [hn] at hr
  refine AC.body T_ok mx_ok Try.func15 rfl rfl rfl rfl rfl rfl ?_
  conv => whnf
  refine (range_ac t h 1 3 (by omega) (by omega) (by omega)).call [0] rfl ⟨DLe.refl _, DLe.refl _, DLe.refl _, trivial⟩ (ldHeap_cons rfl (BLe.refl _) rfl ldHeap_nil) ?_
  conv => whnf
  refine loop_fam (ι := Nat) (fun k => [(0, .ref 0 0), (3, .acc 1 ((startTo (t.range 1 3).2 k).1.map (.int .i64))), (4, i64 ((n : Int) - k))])
    (fun k => [(0, (startTo (t.range 1 3).2 k).2.blk), (1, .tok 3 1 k)]) 2
    (fun k => k ≤ n) (fun k => n - k) 0 [1] (Nat.zero_le _) ⟨rfl, by simp, ?_, ?_⟩ ?_
  · exact leSlots_cons (DLeT.refl _ _) rfl (leSlots_cons (DLeT.nil (by simp)) rfl (leSlots_cons ((DLe.eq (by rw [hn]; simp [D.ren]; rfl)).t _) rfl leSlots_nil))
  · exact leHeap_cons rfl (BLeT.refl _) rfl rfl (leHeap_tok (by simp) rfl leHeap_nil)
  · rintro k hk R hR
    have hl := startTo_len (t.range 1 3).2 k
    have hok := startTo_ok ho k
    conv => whnf
    refine condB_split (fun h1 => ?_) (fun h1 => ?_)
    · have h1 : k < n := by simp at h1; omega
      conv => whnf
      refine needP_intro (fun x hx => by simp at hx; rcases hx with rfl | rfl | rfl | rfl <;> rfl) ?_
      conv => whnf
      refine (pick_ac (startTo (t.range 1 3).2 k).2 hok [0, 1, 5, -2] (by simp) (by simp)).call [0] rfl ⟨DLe.refl _, (DLe.full _).trans (DLe.p rfl), trivial⟩ (ldHeap_cons rfl (BLe.refl _) rfl ldHeap_nil) ?_
      conv => whnf
      refine needP_intro (fun x hx => by simp at hx; subst hx; rfl) ?_
      conv => whnf
      refine needP_intro (⟨by simp [hl], fun z hz => by simp at hz; rcases hz with ⟨a, _, rfl⟩ | rfl <;> rfl, by simp; omega⟩) ?_
      conv => whnf

      refine wrapP_intro (wrap64 (by first | omega | (dsimp only; omega) | (simp only [List.length_map]; omega)) (by first | omega | (dsimp only; omega) | (simp only [List.length_map]; omega))) ?_
      conv => whnf
      refine hR _ _ _ (k + 1) h1 (by omega) ⟨rfl, by simp, ?_, ?_⟩
      · refine leSlots_cons (DLeT.refl _ _) rfl (leSlots_cons ((DLe.eq ?_).t _) rfl ?_)
        · simp [startTo]; rfl
        refine leSlots_cons ((DLe.eq (iSub (by omega))).t _) rfl leSlots_nil
      · refine leHeap_cons rfl (BLeT.refl _) rfl rfl (leHeap_cons rfl (BLeT.eq ?_) rfl rfl leHeap_nil)
        simp [hl]
    · have h1 : k = n := by simp at h1; omega
      subst h1
      conv => whnf
      rw [e0]
      exact DoneLe.mk [0] rfl rfl (ldHeap_cons rfl (BLe.refl _) rfl ldHeap_nil) (DLe.acc _ _) rfl rfl
end Qa.S43
