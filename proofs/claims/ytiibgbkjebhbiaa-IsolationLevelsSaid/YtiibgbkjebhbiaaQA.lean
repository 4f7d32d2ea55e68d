/-
  The law's function, and that each drawn history is valid.
  Part of a proof about the program's own text; written by an AI agent. No statement is proved here: the lemmas that the last text needs.
-/
import Derived.Test.YtiibgbkjebhbiaaQ9
set_option maxRecDepth 100000
namespace Qa.S43
open Go Go.Proofs

def skA (k : Nat) : List Ev := (List.range k).flatMap fun (t : Nat) => [⟨5, t, 0, 0, 0⟩, ⟨1, t, 0, 0, -1⟩, ⟨1, t, 1, 0, -1⟩]
def skB (k : Nat) : List Ev := skA 2 ++ (List.range k).flatMap fun (t : Nat) => [⟨2, t, t, 1, 0⟩, ⟨3, t, 0, 0, 0⟩]
theorem skA_succ (k : Nat) : skA (k + 1) = skA k ++ [⟨5, k, 0, 0, 0⟩, ⟨1, k, 0, 0, -1⟩, ⟨1, k, 1, 0, -1⟩] := by simp [skA, List.range_succ]
theorem skB_succ (k : Nat) : skB (k + 1) = skB k ++ [⟨2, k, k, 1, 0⟩, ⟨3, k, 0, 0, 0⟩] := by simp [skB, List.range_succ]
def skewH : Hist := ⟨[0, 0], skB 2⟩

theorem skew_ac : AC Try.prog 30 [] [] (.p skewH.enc) [] := by
  refine AC.body T_ok mx_ok Try.func30 rfl rfl rfl rfl rfl rfl ?_
  conv => whnf
  refine needP_intro (fun x hx => by simp at hx; subst hx; rfl) ?_
  conv => whnf
  refine loop_fam (ι := Nat) (fun k => [(0, .ref 0 0), (1, .ref 1 0), (2, i64 k)])
    (fun k => [(0, .cells 27 [.nilsl, .nilsl]), (1, .cells 27 [.p (ints [0, 0]), .acc 2 ((skA k).map Ev.enc)]), (2, .tok 58 5 (skA k).length)]) 3
    (fun k => k ≤ 2) (fun k => 2 - k) 0 [2] (Nat.zero_le _) ⟨rfl, by simp, ?_, ?_⟩ ?_
  · (repeat' (first | exact leSlots_nil | refine leSlots_cons ?_ rfl ?_)) <;> (first | exact DLeT.refl _ _ | (refine (DLe.p ?_).t _; (simp; done)) | skip)
  · exact leHeap_cons rfl (BLeT.refl _) rfl rfl (leHeap_cons rfl (BLeT.cells rfl (DLeTL.cons ((DLe.full _).t _) (DLeTL.cons (DLeT.nil (by simp)) DLeTL.nil))) rfl rfl (leHeap_tok (by simp) rfl leHeap_nil))
  · rintro k hk R hR
    have hl : (skA k).length ≤ 6 := by
      match k, hk with
      | 0, _ | 1, _ | 2, _ => simp [skA, List.range, List.range.loop]
    conv => whnf
    refine condB_split (fun h1 => ?_) (fun h1 => ?_)
    · have h1 : k < 2 := by simp at h1; omega
      conv => whnf
      refine needP_intro (fun x hx => by simp at hx; rcases hx with rfl | rfl | rfl <;> rfl) ?_
      conv => whnf
      refine needP_intro (⟨by simp, fun z hz => by simp at hz; rcases hz with ⟨a, _, rfl⟩ | rfl | rfl | rfl <;> rfl, by simp; omega⟩) ?_
      conv => whnf
      refine wrapP_intro (wrap64 (by first | omega | (dsimp only; omega) | (simp only [List.length_map]; omega)) (by first | omega | (dsimp only; omega) | (simp only [List.length_map]; omega))) ?_
      conv => whnf
      refine hR _ _ _ (k + 1) (by omega) (by omega) ⟨rfl, by simp, ?_, ?_⟩
      · (repeat' (first | exact leSlots_nil | refine leSlots_cons ?_ rfl ?_)) <;> (first | exact DLeT.refl _ _ | (refine (DLe.p ?_).t _; (simp; done)) | skip)
      · refine leHeap_cons rfl (BLeT.refl _) rfl rfl (leHeap_cons rfl (BLeT.eq ?_) rfl rfl (leHeap_cons rfl (BLeT.eq ?_) rfl rfl leHeap_nil))
        · rw [skA_succ, List.map_append]; rfl
        · rw [skA_succ]; simp
    · have h1 : k = 2 := by simp at h1; omega
      subst h1
      clear hR
      conv => whnf
      refine loop_fam (ι := Nat) (fun k => [(0, .ref 0 0), (1, .ref 1 0), (3, i64 k)])
        (fun k => [(0, .cells 27 [.nilsl, .nilsl]), (1, .cells 27 [.p (ints [0, 0]), .acc 2 ((skB k).map Ev.enc)]), (2, .tok 58 5 (skB k).length)]) 3
        (fun k => k ≤ 2) (fun k => 2 - k) 0 [] (Nat.zero_le _) ⟨rfl, by simp, ?_, ?_⟩ ?_
      · (repeat' (first | exact leSlots_nil | refine leSlots_cons ?_ rfl ?_)) <;> (first | exact DLeT.refl _ _ | (refine (DLe.p ?_).t _; (simp; done)) | skip)
      · refine leHeap_cons rfl (BLeT.refl _) rfl rfl (leHeap_cons rfl (BLeT.eq ?_) rfl rfl (leHeap_cons rfl (BLeT.eq ?_) rfl rfl leHeap_nil))
        · rfl
        · rfl
      · rintro k hk R hR
        have hl : (skB k).length ≤ 10 := by
          match k, hk with
          | 0, _ | 1, _ | 2, _ => simp [skB, skA, List.range, List.range.loop]
        conv => whnf
        refine condB_split (fun h1 => ?_) (fun h1 => ?_)
        · have h1 : k < 2 := by simp at h1; omega
          conv => whnf
          refine needP_intro (fun x hx => by simp at hx; rcases hx with rfl | rfl <;> rfl) ?_
          conv => whnf
          refine needP_intro (⟨by simp, fun z hz => by simp at hz; rcases hz with ⟨a, _, rfl⟩ | rfl | rfl <;> rfl, by simp; omega⟩) ?_
          conv => whnf
          refine wrapP_intro (wrap64 (by first | omega | (dsimp only; omega) | (simp only [List.length_map]; omega)) (by first | omega | (dsimp only; omega) | (simp only [List.length_map]; omega))) ?_
          conv => whnf
          refine hR _ _ _ (k + 1) (by omega) (by omega) ⟨rfl, by simp, ?_, ?_⟩
          · (repeat' (first | exact leSlots_nil | refine leSlots_cons ?_ rfl ?_)) <;> (first | exact DLeT.refl _ _ | (refine (DLe.p ?_).t _; (simp; done)) | skip)
          · refine leHeap_cons rfl (BLeT.refl _) rfl rfl (leHeap_cons rfl (BLeT.eq ?_) rfl rfl (leHeap_cons rfl (BLeT.eq ?_) rfl rfl leHeap_nil))
            · rw [skB_succ, List.map_append]; rfl
            · rw [skB_succ]; simp
        · have h1 : k = 2 := by simp at h1; omega
          subst h1
          conv => whnf
          exact DoneLe.pure (aggLe _ _ _) (fun _ => rfl) rfl
end Qa.S43

set_option maxRecDepth 100000
namespace Qa.S43
open Go Go.Proofs

theorem skew_valid : validB skewH = true := by rfl
theorem skew_raw : rawE skewH = [⟨0, 1, 3, 1⟩, ⟨1, 0, 3, 0⟩] := by rfl
theorem skew_sort : sortE [⟨0, 1, 3, 1⟩, ⟨1, 0, 3, 0⟩] = [⟨0, 1, 3, 1⟩, ⟨1, 0, 3, 0⟩] := by
  simp [sortE, List.mergeSort, List.MergeSort.Internal.splitInTwo, List.merge]
  decide
theorem skew_edges : edgesL skewH = [⟨0, 1, 3, 1⟩, ⟨1, 0, 3, 0⟩] := by
  show compL (sortE (rawE skewH)) = _
  rw [skew_raw, skew_sort]; rfl
theorem skew_circ (ks : List Int) (h : ks.contains 3 = true) : ofG (edgesL skewH) ks = ofG [⟨0, 1, 3, 1⟩, ⟨1, 0, 3, 0⟩] ks := by rw [skew_edges]
theorem skew_anomF (n : Int) (b : Bool) (h : (if n = 1 then (circleL (ofG [⟨0, 1, 3, 1⟩, ⟨1, 0, 3, 0⟩] [1])).isSome else if n = 2 then abortB skewH else if n = 3 then betwB skewH else if n = 4 then (circleL (ofG [⟨0, 1, 3, 1⟩, ⟨1, 0, 3, 0⟩] [1, 2])).isSome
  else if n = 5 then lostB skewH else if n = 6 then singleB (ofG [⟨0, 1, 3, 1⟩, ⟨1, 0, 3, 0⟩] [1, 2, 3]) else if n = 7 then (circleL (ofG [⟨0, 1, 3, 1⟩, ⟨1, 0, 3, 0⟩] [1, 2, 3])).isSome else false) = b) : anomF skewH n = b := by
  rw [← h]
  simp only [anomF, gK, skew_edges]
theorem skew_anom : anomL skewH = [7] := by
  simp [anomL, List.filter, skew_anomF 1 false rfl, skew_anomF 2 false rfl, skew_anomF 3 false rfl, skew_anomF 4 false rfl, skew_anomF 5 false rfl, skew_anomF 6 false rfl, skew_anomF 7 true rfl]
theorem skew_circle : circleL (gK skewH [1, 2, 3]) = some [0, 1] := by
  simp only [gK, skew_edges]
  rfl

theorem ints_ac (a b : List Int) (ha : a.length ≤ 1000000) : AC Try.prog 21 [.p (ints a), .p (ints b)] [] (.p (.bool (decide (a = b)))) [] := by
  refine AC.body T_ok mx_ok Try.func21 rfl rfl rfl rfl rfl rfl ?_
  conv => whnf
  refine condB_split (fun h1 => ?_) (fun h1 => ?_)
  · conv => whnf
    refine DoneLe.p ?_
    have h1 : a.length ≠ b.length := by simp at h1; omega
    have : a ≠ b := fun e => h1 (by rw [e])
    simp [this]
  have h1 : a.length = b.length := by simp at h1; omega
  conv => whnf
  refine loop_fam (ι := Nat) (fun k => [(0, .p (ints a)), (1, .p (ints b)), (5, i64 k)]) (fun _ => []) 0
    (fun k => k ≤ a.length ∧ a.take k = b.take k) (fun k => a.length - k) 0 [] ⟨Nat.zero_le _, rfl⟩ ⟨rfl, by simp, ?_, ?_⟩ ?_
  · (repeat' (first | exact leSlots_nil | refine leSlots_cons ?_ rfl ?_)) <;> (first | exact DLeT.refl _ _ | (refine (DLe.p ?_).t _; (simp; done)) | skip)
  · (repeat' (first | exact leHeap_nil | refine leHeap_cons rfl ?_ rfl rfl ?_)) <;> (first | exact BLeT.refl _ | (refine BLeT.eq ?_; (simp; done)) | skip)
  · rintro k ⟨hk, hp⟩ R hR
    conv => whnf
    refine condB_split (fun h2 => ?_) (fun h2 => ?_)
    · have h2 : k < a.length := by simpa using h2
      have h3 : k < b.length := by omega
      conv => whnf
      refine getP_intro (.int .i64 a[k]) (by first | omega | (dsimp only; omega) | (simp only [List.length_map]; omega)) (by rw [Int.toNat_natCast, List.getElem?_map, List.getElem?_eq_getElem h2]; rfl) ?_
      conv => whnf
      refine getP_intro (.int .i64 b[k]) (by first | omega | (dsimp only; omega) | (simp only [List.length_map]; omega)) (by rw [Int.toNat_natCast, List.getElem?_map, List.getElem?_eq_getElem h3]; rfl) ?_
      conv => whnf
      refine needP_intro (by kernel_rfl) ?_
      conv => whnf
      refine condB_split (fun h4 => ?_) (fun h4 => ?_)
      · have h4 : a[k] ≠ b[k] := by simpa using h4
        conv => whnf
        refine DoneLe.p ?_
        have : a ≠ b := fun e => h4 (by subst e; rfl)
        simp [this]
      · have h4 : a[k] = b[k] := by simpa using h4
        conv => whnf
        refine wrapP_intro (wrap64 (by first | omega | (dsimp only; omega) | (simp only [List.length_map]; omega)) (by first | omega | (dsimp only; omega) | (simp only [List.length_map]; omega))) ?_
        conv => whnf
        refine hR _ _ _ (k + 1) ⟨h2, by rw [List.take_succ_eq_append_getElem h2, List.take_succ_eq_append_getElem h3, hp, h4]⟩ (by omega) ⟨rfl, by simp, ?_, ?_⟩
        · (repeat' (first | exact leSlots_nil | refine leSlots_cons ?_ rfl ?_)) <;> (first | exact DLeT.refl _ _ | (refine (DLe.p ?_).t _; (simp; done)) | skip)
        · (repeat' (first | exact leHeap_nil | refine leHeap_cons rfl ?_ rfl rfl ?_)) <;> (first | exact BLeT.refl _ | (refine BLeT.eq ?_; (simp; done)) | skip)
    · have h2 : k = a.length := by simp at h2; omega
      subst h2
      conv => whnf
      refine DoneLe.p ?_
      have : a = b := by rw [List.take_length, h1, List.take_length] at hp; exact hp
      simp [this]

theorem awake_ac : AC Try.prog 11 [] [] (.p (.bool true)) [] := by
  have ha := anomaliesF_ac skewH skew_valid
  rw [skew_anom] at ha
  have hc := circleF_ac skewH skew_valid
  rw [skew_circle] at hc
  have hk2 := check_ac skewH skew_valid 2
  have hk3 := check_ac skewH skew_valid 3
  rw [skew_anom] at hk2 hk3
  refine AC.body T_ok mx_ok Try.func11 rfl rfl rfl rfl rfl rfl ?_
  conv => whnf
  refine (skew_ac).callP (by (repeat' (first | exact trivial | refine ⟨DLe.refl _, ?_⟩ | refine ⟨DLe.acc _ _, ?_⟩ | refine ⟨DLe.full _, ?_⟩ | refine ⟨DLe.nil, ?_⟩ | (refine ⟨DLe.p ?_, ?_⟩; focus (simp; done))))) ?_
  conv => whnf
  refine (ha).callP (by (repeat' (first | exact trivial | refine ⟨DLe.refl _, ?_⟩ | refine ⟨DLe.acc _ _, ?_⟩ | refine ⟨DLe.full _, ?_⟩ | refine ⟨DLe.nil, ?_⟩ | (refine ⟨DLe.p ?_, ?_⟩; focus (simp; done))))) ?_
  conv => whnf
  refine (skew_ac).callP (by (repeat' (first | exact trivial | refine ⟨DLe.refl _, ?_⟩ | refine ⟨DLe.acc _ _, ?_⟩ | refine ⟨DLe.full _, ?_⟩ | refine ⟨DLe.nil, ?_⟩ | (refine ⟨DLe.p ?_, ?_⟩; focus (simp; done))))) ?_
  conv => whnf
  refine (hc).callP (by (repeat' (first | exact trivial | refine ⟨DLe.refl _, ?_⟩ | refine ⟨DLe.acc _ _, ?_⟩ | refine ⟨DLe.full _, ?_⟩ | refine ⟨DLe.nil, ?_⟩ | (refine ⟨DLe.p ?_, ?_⟩; focus (simp; done))))) ?_
  conv => whnf
  refine needP_intro (fun x hx => by simp at hx; subst hx; rfl) ?_
  conv => whnf
  refine (ints_ac [7] [7] (by simp)).callP ⟨DLe.refl _, (DLe.full _).trans (DLe.p rfl), trivial⟩ ?_
  conv => whnf
  refine needP_intro (fun x hx => by simp at hx; rcases hx with rfl | rfl <;> rfl) ?_
  conv => whnf
  refine (ints_ac [0, 1] [0, 1] (by simp)).callP ⟨DLe.refl _, (DLe.full _).trans (DLe.p rfl), trivial⟩ ?_
  conv => whnf
  refine (skew_ac).callP (by (repeat' (first | exact trivial | refine ⟨DLe.refl _, ?_⟩ | refine ⟨DLe.acc _ _, ?_⟩ | refine ⟨DLe.full _, ?_⟩ | refine ⟨DLe.nil, ?_⟩ | (refine ⟨DLe.p ?_, ?_⟩; focus (simp; done))))) ?_
  conv => whnf
  refine (hk2).callP (by (repeat' (first | exact trivial | refine ⟨DLe.refl _, ?_⟩ | refine ⟨DLe.acc _ _, ?_⟩ | refine ⟨DLe.full _, ?_⟩ | refine ⟨DLe.nil, ?_⟩ | (refine ⟨DLe.p ?_, ?_⟩; focus (simp; done))))) ?_
  conv => whnf
  refine (skew_ac).callP (by (repeat' (first | exact trivial | refine ⟨DLe.refl _, ?_⟩ | refine ⟨DLe.acc _ _, ?_⟩ | refine ⟨DLe.full _, ?_⟩ | refine ⟨DLe.nil, ?_⟩ | (refine ⟨DLe.p ?_, ?_⟩; focus (simp; done))))) ?_
  conv => whnf
  refine (hk3).callP (by (repeat' (first | exact trivial | refine ⟨DLe.refl _, ?_⟩ | refine ⟨DLe.acc _ _, ?_⟩ | refine ⟨DLe.full _, ?_⟩ | refine ⟨DLe.nil, ?_⟩ | (refine ⟨DLe.p ?_, ?_⟩; focus (simp; done))))) ?_
  conv => whnf
  exact DoneLe.pure (DLe.eq rfl) (fun _ => rfl) rfl

theorem anomL_check (f : Int → Bool) : ∀ x r, ([1, 2, 3, 4, 5, 6, 7] : List Int).filter f = x :: r → checkL (x :: r) 1 = decide (4 < x) := by
  intro x r h
  cases h1 : f 1
  · cases h2 : f 2
    · cases h3 : f 3
      · cases h4 : f 4
        · have hx : ∀ y ∈ (x :: r), 4 < y := fun y hy => by
            rw [← h] at hy
            obtain ⟨hy, hf⟩ := List.mem_filter.1 hy
            simp at hy
            rcases hy with rfl | rfl | rfl | rfl | rfl | rfl | rfl <;> first | omega | simp_all
          have hn : ∀ y : Int, y ≤ 4 → (x :: r).contains y = false := fun y hy => by
            cases hq : (x :: r).contains y with
            | false => rfl
            | true => have := hx y (by simpa using hq); omega
          have := hx x (by simp)
          unfold checkL
          rw [hn 1 (by omega), hn 2 (by omega), hn 3 (by omega), hn 4 (by omega)]
          simp [checkB, this]
        · simp [List.filter, h1, h2, h3, h4] at h
          obtain ⟨rfl, rfl⟩ := h
          simp [checkL, checkB]
      · simp [List.filter, h1, h2, h3] at h
        obtain ⟨rfl, rfl⟩ := h
        simp [checkL, checkB]
    · simp [List.filter, h1, h2] at h
      obtain ⟨rfl, rfl⟩ := h
      simp [checkL, checkB]
  · simp [List.filter, h1] at h
    obtain ⟨rfl, rfl⟩ := h
    simp [checkL, checkB]

theorem check21 {l : List Int} (h : checkL l 2 = true) : checkL l 1 = true := by
  revert h
  unfold checkL
  generalize l.contains 1 = c1
  generalize l.contains 2 = c2
  generalize l.contains 3 = c3
  generalize l.contains 4 = c4
  generalize l.contains 5 = c5
  generalize l.contains 6 = c6
  cases c1 <;> cases c2 <;> cases c3 <;> cases c4 <;> simp [checkB]
theorem check3 (l : List Int) : checkL l 3 = l.isEmpty := by simp [checkL, checkB]
theorem check_nil : checkL [] 1 = true ∧ checkL [] 2 = true ∧ checkL [] 3 = true := ⟨rfl, rfl, rfl⟩

theorem levels_ac (l : List Int) (hv : validB (newTape l).hist = true) : AC Try.prog 4 [.p (ints l)] [] (.p (.bool true)) [] := by
  have ht := newTape_ok l
  have hm := made_ac (newTape l) ht
  have hk1 := check_ac _ hv 1
  have hk2 := check_ac _ hv 2
  have hk3 := check_ac _ hv 3
  have ha := anomaliesF_ac _ hv
  have hf := anomalyF_ac _ hv
  have hlen := anomL_len (newTape l).hist
  have hx := anomL_check (anomF (newTape l).hist)
  rw [show ([1, 2, 3, 4, 5, 6, 7] : List Int).filter (anomF (newTape l).hist) = anomL (newTape l).hist from rfl] at hx
  generalize anomL (newTape l).hist = A at hk1 hk2 hk3 ha hf hlen hx
  generalize (newTape l).hist = h at *
  have h21 : checkL A 2 = true → checkL A 1 = true := check21
  have h3 := check3 A
  cases A with
  | nil =>
    rw [check_nil.1] at hk1
    rw [check_nil.2.1] at hk2
    rw [check_nil.2.2] at hk3
    refine AC.body T_ok mx_ok Try.func4 rfl rfl rfl rfl rfl rfl ?_
    conv => whnf
    refine (new_ac l).call [] rfl ⟨DLe.refl _, trivial⟩ ldHeap_nil ?_
    conv => whnf
    refine hm.call [0] rfl ⟨DLe.refl _, trivial⟩ (ldHeap_cons rfl (BLe.refl _) rfl ldHeap_nil) ?_
    conv => whnf
    refine (ha).callP (by (repeat' (first | exact trivial | refine ⟨DLe.refl _, ?_⟩ | refine ⟨DLe.acc _ _, ?_⟩ | refine ⟨DLe.full _, ?_⟩ | refine ⟨DLe.nil, ?_⟩ | (refine ⟨DLe.p ?_, ?_⟩; focus (simp; done))))) ?_
    conv => whnf
    refine (hk1).callP (by (repeat' (first | exact trivial | refine ⟨DLe.refl _, ?_⟩ | refine ⟨DLe.acc _ _, ?_⟩ | refine ⟨DLe.full _, ?_⟩ | refine ⟨DLe.nil, ?_⟩ | (refine ⟨DLe.p ?_, ?_⟩; focus (simp; done))))) ?_
    conv => whnf
    refine (hk2).callP (by (repeat' (first | exact trivial | refine ⟨DLe.refl _, ?_⟩ | refine ⟨DLe.acc _ _, ?_⟩ | refine ⟨DLe.full _, ?_⟩ | refine ⟨DLe.nil, ?_⟩ | (refine ⟨DLe.p ?_, ?_⟩; focus (simp; done))))) ?_
    conv => whnf
    refine (hk3).callP (by (repeat' (first | exact trivial | refine ⟨DLe.refl _, ?_⟩ | refine ⟨DLe.acc _ _, ?_⟩ | refine ⟨DLe.full _, ?_⟩ | refine ⟨DLe.nil, ?_⟩ | (refine ⟨DLe.p ?_, ?_⟩; focus (simp; done))))) ?_
    conv => whnf
    refine needP_intro (by kernel_rfl) ?_
    conv => whnf
    refine (hf).callP (by (repeat' (first | exact trivial | refine ⟨DLe.refl _, ?_⟩ | refine ⟨DLe.acc _ _, ?_⟩ | refine ⟨DLe.full _, ?_⟩ | refine ⟨DLe.nil, ?_⟩ | (refine ⟨DLe.p ?_, ?_⟩; focus (simp; done))))) ?_
    conv => whnf
    refine (awake_ac).callP (by (repeat' (first | exact trivial | refine ⟨DLe.refl _, ?_⟩ | refine ⟨DLe.acc _ _, ?_⟩ | refine ⟨DLe.full _, ?_⟩ | refine ⟨DLe.nil, ?_⟩ | (refine ⟨DLe.p ?_, ?_⟩; focus (simp; done))))) ?_
    conv => whnf
    exact DoneLe.pure (DLe.refl _) (fun _ => rfl) rfl
  | cons x r =>
    have hx := hx x r rfl
    rw [h3] at hk3
    rw [hx] at hk1 h21
    cases h2 : checkL (x :: r) 2
    · rw [h2] at hk2
      refine AC.body T_ok mx_ok Try.func4 rfl rfl rfl rfl rfl rfl ?_
      conv => whnf
      refine (new_ac l).call [] rfl ⟨DLe.refl _, trivial⟩ ldHeap_nil ?_
      conv => whnf
      refine hm.call [0] rfl ⟨DLe.refl _, trivial⟩ (ldHeap_cons rfl (BLe.refl _) rfl ldHeap_nil) ?_
      conv => whnf
      refine (ha).callP (by (repeat' (first | exact trivial | refine ⟨DLe.refl _, ?_⟩ | refine ⟨DLe.acc _ _, ?_⟩ | refine ⟨DLe.full _, ?_⟩ | refine ⟨DLe.nil, ?_⟩ | (refine ⟨DLe.p ?_, ?_⟩; focus (simp; done))))) ?_
      conv => whnf
      refine (hk1).callP (by (repeat' (first | exact trivial | refine ⟨DLe.refl _, ?_⟩ | refine ⟨DLe.acc _ _, ?_⟩ | refine ⟨DLe.full _, ?_⟩ | refine ⟨DLe.nil, ?_⟩ | (refine ⟨DLe.p ?_, ?_⟩; focus (simp; done))))) ?_
      conv => whnf
      refine (hk2).callP (by (repeat' (first | exact trivial | refine ⟨DLe.refl _, ?_⟩ | refine ⟨DLe.acc _ _, ?_⟩ | refine ⟨DLe.full _, ?_⟩ | refine ⟨DLe.nil, ?_⟩ | (refine ⟨DLe.p ?_, ?_⟩; focus (simp; done))))) ?_
      conv => whnf
      refine (hk3).callP (by (repeat' (first | exact trivial | refine ⟨DLe.refl _, ?_⟩ | refine ⟨DLe.acc _ _, ?_⟩ | refine ⟨DLe.full _, ?_⟩ | refine ⟨DLe.nil, ?_⟩ | (refine ⟨DLe.p ?_, ?_⟩; focus (simp; done))))) ?_
      conv => whnf
      refine needP_intro (by kernel_rfl) ?_
      conv => whnf
      refine (hf).callP (by (repeat' (first | exact trivial | refine ⟨DLe.refl _, ?_⟩ | refine ⟨DLe.acc _ _, ?_⟩ | refine ⟨DLe.full _, ?_⟩ | refine ⟨DLe.nil, ?_⟩ | (refine ⟨DLe.p ?_, ?_⟩; focus (simp; done))))) ?_
      conv => whnf
      refine condB_split (fun k1 => ?_) (fun k1 => ?_)
      · conv => whnf
        refine getP_intro (.int .i64 x) (by first | omega | (dsimp only; omega) | (simp only [List.length_map]; omega)) (rfl) ?_
        conv => whnf
        refine condB_split (fun k2 => ?_) (fun k2 => ?_)
        · conv => whnf
          refine condB_split (fun k3 => ?_) (fun k3 => ?_)
          · conv => whnf
            refine (awake_ac).callP (by (repeat' (first | exact trivial | refine ⟨DLe.refl _, ?_⟩ | refine ⟨DLe.acc _ _, ?_⟩ | refine ⟨DLe.full _, ?_⟩ | refine ⟨DLe.nil, ?_⟩ | (refine ⟨DLe.p ?_, ?_⟩; focus (simp; done))))) ?_
            conv => whnf
            exact DoneLe.pure (DLe.refl _) (fun _ => rfl) rfl
          · exfalso
            simp [hx] at k3
            try (simp at h4; omega)
        · simp at k2
      · simp at k1 <;> omega
    · have h4 := h21 h2
      rw [h2] at hk2
      rw [h4] at hk1
      refine AC.body T_ok mx_ok Try.func4 rfl rfl rfl rfl rfl rfl ?_
      conv => whnf
      refine (new_ac l).call [] rfl ⟨DLe.refl _, trivial⟩ ldHeap_nil ?_
      conv => whnf
      refine hm.call [0] rfl ⟨DLe.refl _, trivial⟩ (ldHeap_cons rfl (BLe.refl _) rfl ldHeap_nil) ?_
      conv => whnf
      refine (ha).callP (by (repeat' (first | exact trivial | refine ⟨DLe.refl _, ?_⟩ | refine ⟨DLe.acc _ _, ?_⟩ | refine ⟨DLe.full _, ?_⟩ | refine ⟨DLe.nil, ?_⟩ | (refine ⟨DLe.p ?_, ?_⟩; focus (simp; done))))) ?_
      conv => whnf
      refine (hk1).callP (by (repeat' (first | exact trivial | refine ⟨DLe.refl _, ?_⟩ | refine ⟨DLe.acc _ _, ?_⟩ | refine ⟨DLe.full _, ?_⟩ | refine ⟨DLe.nil, ?_⟩ | (refine ⟨DLe.p ?_, ?_⟩; focus (simp; done))))) ?_
      conv => whnf
      refine (hk2).callP (by (repeat' (first | exact trivial | refine ⟨DLe.refl _, ?_⟩ | refine ⟨DLe.acc _ _, ?_⟩ | refine ⟨DLe.full _, ?_⟩ | refine ⟨DLe.nil, ?_⟩ | (refine ⟨DLe.p ?_, ?_⟩; focus (simp; done))))) ?_
      conv => whnf
      refine (hk3).callP (by (repeat' (first | exact trivial | refine ⟨DLe.refl _, ?_⟩ | refine ⟨DLe.acc _ _, ?_⟩ | refine ⟨DLe.full _, ?_⟩ | refine ⟨DLe.nil, ?_⟩ | (refine ⟨DLe.p ?_, ?_⟩; focus (simp; done))))) ?_
      conv => whnf
      refine needP_intro (by kernel_rfl) ?_
      conv => whnf
      refine (hf).callP (by (repeat' (first | exact trivial | refine ⟨DLe.refl _, ?_⟩ | refine ⟨DLe.acc _ _, ?_⟩ | refine ⟨DLe.full _, ?_⟩ | refine ⟨DLe.nil, ?_⟩ | (refine ⟨DLe.p ?_, ?_⟩; focus (simp; done))))) ?_
      conv => whnf
      refine condB_split (fun k1 => ?_) (fun k1 => ?_)
      · conv => whnf
        refine getP_intro (.int .i64 x) (by first | omega | (dsimp only; omega) | (simp only [List.length_map]; omega)) (rfl) ?_
        conv => whnf
        refine condB_split (fun k2 => ?_) (fun k2 => ?_)
        · conv => whnf
          refine condB_split (fun k3 => ?_) (fun k3 => ?_)
          · conv => whnf
            refine (awake_ac).callP (by (repeat' (first | exact trivial | refine ⟨DLe.refl _, ?_⟩ | refine ⟨DLe.acc _ _, ?_⟩ | refine ⟨DLe.full _, ?_⟩ | refine ⟨DLe.nil, ?_⟩ | (refine ⟨DLe.p ?_, ?_⟩; focus (simp; done))))) ?_
            conv => whnf
            exact DoneLe.pure (DLe.refl _) (fun _ => rfl) rfl
          · exfalso
            simp [hx] at k3
            try (simp at h4; omega)
        · simp at k2
      · simp at k1 <;> omega
end Qa.S43

set_option maxRecDepth 100000
namespace Qa.S43
open Go Go.Proofs

-- what Made makes is valid
def AllR (S : List Int) (es : List Ev) : Prop := ∀ i x, es[i]? = some x → rightB ⟨S, []⟩ (es.take i) x = true
theorem AllR.nil (S : List Int) : AllR S [] := fun i x h => by simp at h
theorem AllR.snoc {S : List Int} {es : List Ev} {x : Ev} (h : AllR S es) (hx : rightB ⟨S, []⟩ es x = true) : AllR S (es ++ [x]) := by
  intro i y hy
  by_cases hi : i < es.length
  · rw [List.getElem?_append_left hi] at hy
    rw [List.take_append_of_le_length (by omega)]
    exact h i y hy
  · rw [List.getElem?_append_right (by omega)] at hy
    have hlt := (List.getElem?_eq_some_iff.1 hy).1
    have : i = es.length := by simp at hlt; omega
    subst this
    simp at hy
    subst hy
    rw [List.take_append_of_le_length (Nat.le_refl _), List.take_length]
    exact hx
theorem AllR.tr {S : List Int} {es : List Ev} (h : AllR S es) {e : Ev} (he : e ∈ es) : 0 ≤ e.tr ∧ e.tr < 5 := by
  obtain ⟨i, hi⟩ := List.getElem?_of_mem he
  have := h i e hi
  unfold rightB at this
  split at this
  · cases this
  · omega
theorem AllR.valid {S : List Int} {es : List Ev} (h : AllR S es) (h1 : S.length ≤ 6) (h2 : es.length ≤ 200) : validB ⟨S, es⟩ = true := by
  simp only [validB, Bool.and_eq_true, decide_eq_true_eq, List.all_eq_true, List.mem_range]
  refine ⟨⟨h1, h2⟩, fun i hi => ?_⟩
  have := h i es[i] (List.getElem?_eq_getElem hi)
  rw [List.getElem?_eq_getElem hi]
  exact this

structure Inv (S : List Int) (n : Nat) (s : MS) : Prop where
  all : AllR S s.es
  st : ∀ i, i < n → s.st i = 0 ∨ s.st i = 1 ∨ s.st i = 2
  tr : ∀ i, i < n → (s.es.any fun y => y.tr == (i : Int)) = !(s.st i == 0)
  en : ∀ i, i < n → (s.es.any fun y => y.tr == (i : Int) && ended y) = (s.st i == 2)
  wr : ∀ j, j < S.length → s.wr j = s.es.filter fun e => e.kind == 2 && e.key == (j : Int)

theorem Inv.tape {S : List Int} {n : Nat} {s : MS} (h : Inv S n s) (t : Tape) : Inv S n { s with tape := t } := ⟨h.all, h.st, h.tr, h.en, h.wr⟩

theorem right_of {S : List Int} {es : List Ev} {x : Ev} (h0 : 0 ≤ x.tr) (h5 : x.tr < 5) (he : (es.any fun y => y.tr == x.tr && ended y) = false) (hb : (es.any fun y => y.tr == x.tr) = !(x.kind == 5))
    (hx : (if x.kind = 5 ∨ x.kind = 3 ∨ x.kind = 4 then x.key == 0 && x.value == 0 && x.fr == 0
      else if x.kind = 2 then decide (0 ≤ x.key ∧ x.key < S.length) && x.fr == 0
      else if x.kind = 1 then decide (0 ≤ x.key ∧ x.key < S.length) && readsB ⟨S, []⟩ es x
      else false) = true) : rightB ⟨S, []⟩ es x = true := by
  unfold rightB
  rw [if_neg (by omega), if_neg (by rw [he]; simp), if_neg (by rw [hb]; cases (x.kind == 5) <;> simp)]
  exact hx

theorem Inv.beg {S : List Int} {n : Nat} {s : MS} (hn : n ≤ 4) (h : Inv S n s) {i : Nat} (hi : i < n) (h2 : s.st i ≠ 2) : Inv S n (s.beg i) ∧ (s.beg i).st i = 1 := by
  unfold MS.beg
  by_cases h0 : s.st i = 0
  · rw [if_pos h0]
    refine ⟨⟨h.all.snoc (right_of (by simp [bEv]) (by simp [bEv]; omega) ?_ ?_ (by simp [bEv])), fun k hk => ?_, fun k hk => ?_, fun k hk => ?_, fun j hj => ?_⟩, by simp [set1]⟩
    · have := h.en i hi
      rw [h0] at this
      exact this
    · have := h.tr i hi
      rw [h0] at this
      exact this
    · by_cases e : k = i
      · simp [set1, e]
      · simp [set1, e]; exact h.st k hk
    · have := h.tr k hk
      simp only [List.any_append, this, List.any_cons, List.any_nil, Bool.or_false]
      by_cases e : k = i
      · subst e; simp [set1, bEv]
      · have e' : ¬ (i : Int) = k := by omega
        simp [set1, bEv, e, e']
    · have := h.en k hk
      simp only [List.any_append, this, List.any_cons, List.any_nil, Bool.or_false]
      by_cases e : k = i
      · subst e; simp [set1, bEv, ended, h0]
      · simp [set1, bEv, ended, e]
    · have := h.wr j hj
      simp [this, bEv]
  · rw [if_neg h0]
    exact ⟨h, by have := h.st i hi; omega⟩

theorem own_find (i : Int) (p : Int × Int) : ∀ ws : List Ev, own i ws p = match ws.reverse.find? (fun w => w.tr == i) with | some w => (w.value, i) | none => p := by
  intro ws
  rw [← List.reverse_reverse ws]
  generalize ws.reverse = l
  rw [List.reverse_reverse]
  induction l with
  | nil => rfl
  | cons w l ih =>
    rw [List.reverse_cons, own, List.foldl_append]
    rw [show l.reverse.foldl (fun p (w : Ev) => if w.tr = i then (w.value, i) else p) p = own i l.reverse p from rfl, ih]
    simp only [List.foldl_cons, List.foldl_nil, List.find?_cons]
    by_cases hw : w.tr = i
    · simp [hw]
    · have : (w.tr == i) = false := by simpa using hw
      simp [hw, this]

theorem Inv.snoc {S : List Int} {n : Nat} {s : MS} (h : Inv S n s) {x : Ev} {i : Nat} (hi : i < n) (hx : x.tr = i) (h1 : s.st i = 1) (hr : rightB ⟨S, []⟩ s.es x = true) (he : ended x = false) (hw : (x.kind == 2) = false) (t : Tape) :
    Inv S n ⟨t, s.st, s.wr, s.es ++ [x]⟩ := by
  refine ⟨h.all.snoc hr, h.st, fun k hk => ?_, fun k hk => ?_, fun j hj => ?_⟩
  · have := h.tr k hk
    simp only [List.any_append, this, List.any_cons, List.any_nil, Bool.or_false]
    by_cases e : k = i
    · subst e; simp [hx, h1]
    · have e' : ¬ (i : Int) = k := by omega
      simp [hx, e']
  · have := h.en k hk
    simp only [List.any_append, this, List.any_cons, List.any_nil, Bool.or_false, he, Bool.and_false]
  · have := h.wr j hj
    simp [this, hw]

theorem Inv.read {S : List Int} {n : Nat} {s : MS} (hn : n ≤ 4) (h : Inv S n s) {i j : Nat} (hi : i < n) (hj : j < S.length) (h1 : s.st i = 1) : Inv S n (s.read S i j) := by
  have he := h.en i hi
  have ht := h.tr i hi
  rw [h1] at he ht
  refine h.snoc (x := ⟨1, i, j, (own i (s.wr j) (s.look S j).1).1, (own i (s.wr j) (s.look S j).1).2⟩) hi rfl h1 (right_of (by simp) (by simp; omega) he ht ?_) rfl rfl _
  rw [if_neg (by simp), if_neg (by simp), if_pos rfl]
  simp only [Bool.and_eq_true, decide_eq_true_eq]
  refine ⟨⟨by omega, by omega⟩, ?_⟩
  have hws := h.wr j hj
  have hfind : s.es.reverse.find? (ownW ⟨1, i, j, (own i (s.wr j) (s.look S j).1).1, (own i (s.wr j) (s.look S j).1).2⟩) = (s.wr j).reverse.find? (fun w => w.tr == (i : Int)) := by
    rw [hws, ← List.filter_reverse, List.find?_filter]
    congr 1
    funext w
    simp only [ownW]
    cases w.kind == 2 <;> cases w.tr == (i : Int) <;> cases w.key == (j : Int) <;> rfl
  unfold readsB
  rw [hfind, own_find]
  cases hf : (s.wr j).reverse.find? (fun w => w.tr == (i : Int)) with
  | some w => simp
  | none =>
    simp only
    have hno : ∀ w ∈ s.wr j, ¬ w.tr = i := fun w hw => by
      rw [List.find?_eq_none] at hf
      have := hf w (by simpa using hw)
      simpa using this
    have hmem : ∀ w ∈ s.wr j, w ∈ s.es ∧ w.kind = 2 ∧ w.key = j := fun w hw => by
      rw [hws] at hw
      obtain ⟨h1, h2⟩ := List.mem_filter.1 hw
      simp at h2
      exact ⟨h1, h2⟩
    have hlook : (s.wr j = [] ∧ (s.look S j).1 = (S.getD j 0, -1)) ∨ ∃ w ∈ s.wr j, (s.look S j).1 = (w.value, w.tr) := by
      unfold MS.look
      split
      · rename_i e; exact .inl ⟨e, rfl⟩
      · rename_i w ws e
        refine .inr ⟨(w :: ws).getD (s.tape.n (w :: ws).length).1.toNat w, ?_, rfl⟩
        rw [e, List.getD_eq_getElem?_getD]
        cases hq : (w :: ws)[(s.tape.n (w :: ws).length).1.toNat]? with
        | none => simp
        | some y => exact List.mem_of_getElem? hq
    rcases hlook with ⟨_, hl⟩ | ⟨w, hw, hl⟩
    · rw [hl]; simp
    · rw [hl]
      have hm := hmem w hw
      have htr := h.all.tr hm.1
      have hne := hno w hw
      have hb : ¬ w.tr = -1 := by omega
      rw [if_neg (by simpa using hb)]
      simp only [Bool.and_eq_true, bne_iff_ne, ne_eq]
      refine ⟨hne, List.any_eq_true.2 ⟨w, hm.1, ?_⟩⟩
      simp [isW, hm.2.1, hm.2.2]

theorem Inv.write {S : List Int} {n : Nat} {s : MS} (hn : n ≤ 4) (h : Inv S n s) (left : Int) {i j : Nat} (hi : i < n) (hj : j < S.length) (h1 : s.st i = 1) : Inv S n (s.write left i j) := by
  have he := h.en i hi
  have ht := h.tr i hi
  rw [h1] at he ht
  refine ⟨h.all.snoc (right_of (by simp [wEv]) (by simp [wEv]; omega) he ht ?_), h.st, fun k hk => ?_, fun k hk => ?_, fun q hq => ?_⟩
  · rw [if_neg (by simp [wEv]), if_pos (show (wEv left i j).kind = 2 from rfl)]
    simp [wEv]; omega
  · have := h.tr k hk
    simp only [MS.write, List.any_append, this, List.any_cons, List.any_nil, Bool.or_false]
    by_cases e : k = i
    · subst e; simp [h1, wEv]
    · have e' : ¬ (i : Int) = k := by omega
      simp [wEv, e']
  · have := h.en k hk
    simp only [MS.write, List.any_append, this, List.any_cons, List.any_nil, Bool.or_false]
    simp [wEv, ended]
  · have := h.wr q hq
    simp only [MS.write]
    by_cases e : q = j
    · subst e; simp [this, wEv]
    · have e' : ¬ (j : Int) = q := by omega
      simp [this, wEv, e, e']

theorem pick334 (t : Tape) : (t.pick [3, 3, 4]).1 = 3 ∨ (t.pick [3, 3, 4]).1 = 4 := by
  have h := modG_lt t.raw.1 (show (1 : Int) ≤ 3 by omega)
  have e : (t.pick [3, 3, 4]).1 = ([3, 3, 4] : List Int).getD (modG t.raw.1 3).toNat 0 := rfl
  rw [e]
  have : (modG t.raw.1 3).toNat = 0 ∨ (modG t.raw.1 3).toNat = 1 ∨ (modG t.raw.1 3).toNat = 2 := by omega
  rcases this with h | h | h <;> rw [h] <;> simp

theorem last_right {S : List Int} {s : MS} {i : Nat} (hi : i < 5) (he : (s.es.any fun y => y.tr == (i : Int) && ended y) = false) (ht : (s.es.any fun y => y.tr == (i : Int)) = true) :
    rightB ⟨S, []⟩ s.es ⟨(s.tape.pick [3, 3, 4]).1, i, 0, 0, 0⟩ = true := by
  have hp := pick334 s.tape
  refine right_of (by simp) (by simp; omega) he (by rw [ht]; rcases hp with h | h <;> simp [h]) ?_
  rw [if_pos (by rcases hp with h | h <;> simp [h])]
  simp

theorem Inv.fin {S : List Int} {n : Nat} {s : MS} (hn : n ≤ 4) (h : Inv S n s) {i : Nat} (hi : i < n) (h1 : s.st i = 1) : Inv S n (s.fin i) := by
  have he := h.en i hi
  have ht := h.tr i hi
  rw [h1] at he ht
  have hp := pick334 s.tape
  refine ⟨h.all.snoc (last_right (by omega) he ht), fun k hk => ?_, fun k hk => ?_, fun k hk => ?_, fun j hj => ?_⟩
  · simp only [MS.fin, MS.last]
    split
    · simp
    · exact h.st k hk
  · have := h.tr k hk
    simp only [MS.fin, MS.last, List.any_append, this, List.any_cons, List.any_nil, Bool.or_false]
    by_cases e : k = i
    · subst e; simp
    · have e' : ¬ (i : Int) = k := by omega
      simp [e, e']
  · have := h.en k hk
    simp only [MS.fin, MS.last, List.any_append, this, List.any_cons, List.any_nil, Bool.or_false]
    by_cases e : k = i
    · subst e
      rcases hp with hp | hp <;> simp [ended, hp]
    · have e' : ¬ (i : Int) = k := by omega
      simp [e, e']
  · have := h.wr j hj
    simp only [MS.fin, MS.last]
    rcases hp with hp | hp <;> simp [this, hp]

theorem Inv.step {S : List Int} {n : Nat} {s : MS} (h0 : 1 ≤ n) (hn : n ≤ 4) (hS : 1 ≤ S.length) (h : Inv S n s) (left : Int) : Inv S n (s.step S n left) := by
  have m1 := modG_lt s.tape.raw.1 (show (1 : Int) ≤ n by omega)
  have m2 := modG_lt (s.tape.n n).2.raw.1 (show (1 : Int) ≤ S.length by omega)
  have hi : (s.tape.n n).1.toNat < n := by
    have h1 : 0 ≤ (s.tape.n n).1 := m1.1
    have h2 : (s.tape.n n).1 < n := m1.2
    omega
  have hj : ((s.tape.n n).2.n S.length).1.toNat < S.length := by
    have h1 : 0 ≤ ((s.tape.n n).2.n S.length).1 := m2.1
    have h2 : ((s.tape.n n).2.n S.length).1 < S.length := m2.2
    omega
  unfold MS.step
  generalize (s.tape.n n).1.toNat = i at hi ⊢
  generalize ((s.tape.n n).2.n S.length).1.toNat = j at hj ⊢
  generalize ((s.tape.n n).2.n S.length).2 = T
  split
  · exact h.tape T
  · rename_i h2
    obtain ⟨h3, h4⟩ := (h.tape T).beg hn hi h2
    generalize ({ s with tape := T } : MS).beg i = u at h3 h4
    unfold MS.act
    split
    · exact (h3.tape _).read hn hi hj h4
    · split
      · exact (h3.tape _).write hn left hi hj h4
      · exact (h3.tape _).fin hn hi h4

theorem stepsTo_inv {S : List Int} {n N : Nat} {s : MS} (h0 : 1 ≤ n) (hn : n ≤ 4) (hS : 1 ≤ S.length) (h : Inv S n s) : ∀ k, Inv S n (stepsTo S n N s k)
  | 0 => h
  | k + 1 => (stepsTo_inv h0 hn hS h k).step h0 hn hS _

theorem finTo_all {S : List Int} {n : Nat} {s : MS} (hn : n ≤ 4) (h : Inv S n s) : ∀ q, q ≤ n → AllR S (finTo s q).es ∧ ∀ i, q ≤ i → i < n →
    ((finTo s q).es.any fun y => y.tr == (i : Int)) = (s.es.any fun y => y.tr == (i : Int)) ∧ ((finTo s q).es.any fun y => y.tr == (i : Int) && ended y) = (s.es.any fun y => y.tr == (i : Int) && ended y)
  | 0, _ => ⟨h.all, fun _ _ _ => ⟨rfl, rfl⟩⟩
  | q + 1, hq => by
    obtain ⟨h1, h2⟩ := finTo_all hn h q (by omega)
    rw [finTo]
    split
    · rename_i h3
      rw [finTo_st] at h3
      obtain ⟨h4, h5⟩ := h2 q (Nat.le_refl _) (by omega)
      have he := h.en q (by omega)
      have ht := h.tr q (by omega)
      rw [h3] at he ht
      refine ⟨h1.snoc (last_right (by omega) (h5.trans he) (h4.trans ht)), fun i h6 h7 => ?_⟩
      obtain ⟨h8, h9⟩ := h2 i (by omega) h7
      have e' : ¬ (q : Int) = i := by omega
      simp only [MS.last, List.any_append, h8, h9]
      simp [e']
    · exact ⟨h1, fun i h6 h7 => h2 i (by omega) h7⟩

theorem made_valid (t : Tape) (h : t.ok) : validB t.hist = true := by
  have hSl := t.start_len
  have hr := t.start.2.range_in (show (1 : Int) ≤ 4 by omega)
  have hq := (t.start.2.range 1 4).2.range_in (show (4 : Int) ≤ 24 by omega)
  have hto := Tape.range_ok (Tape.range_ok (t.start_ok h) 1 4) 4 24
  unfold Tape.hist Tape.made
  dsimp only
  generalize hS : t.start.1 = S at hSl
  generalize hn : (t.start.2.range 1 4).1.toNat = n
  generalize hN : ((t.start.2.range 1 4).2.range 4 24).1.toNat = N
  have h1 : 1 ≤ n ∧ n ≤ 4 := by omega
  have h2 : N ≤ 24 := by omega
  generalize ((t.start.2.range 1 4).2.range 4 24).2 = T at hto
  have hi : Inv S n ⟨T, fun _ => 0, fun _ => [], []⟩ := ⟨AllR.nil S, fun _ _ => .inl rfl, fun _ _ => rfl, fun _ _ => rfl, fun _ _ => rfl⟩
  have hb : MS.bd 0 ⟨T, fun _ => 0, fun _ => [], []⟩ := ⟨hto, by simp, by simp⟩
  have hI := stepsTo_inv (N := N) h1.1 h1.2 hSl.1 hi N
  have hB := stepsTo_bd (S := S) (n := n) (N := N) hb N
  have hA := finTo_all h1.2 hI n (Nat.le_refl _)
  have hl := finTo_len (stepsTo S n N ⟨T, fun _ => 0, fun _ => [], []⟩ N) n
  have := hB.es
  exact hA.1.valid (by omega) (by omega)
end Qa.S43
