/-
  The functions of this program: what is taken, comparing, compacting, graphs, cycles.
  Part of a proof about the program's own text; written by an AI agent. No statement is proved here: the lemmas that the last text needs.
-/
import Derived.Test.YtiibgbkjebhbiaaQ6
set_option maxRecDepth 100000
namespace Qa.S43
open Go Go.Proofs

-- versions that are taken
structure Tk where
  by_ : Int
  key : Int
  fr : Int
  deriving DecidableEq
def Tk.enc (t : Tk) : Pd := .agg [.int .i64 t.by_, .int .i64 t.key, .int .i64 t.fr]
def Tk.blk (t : Tk) : Blk := .cells 110 [i64 t.by_, i64 t.key, i64 t.fr]
def tks (l : List Tk) : Pd := .list (l.map Tk.enc)
theorem tks_get {l : List Tk} {k : Nat} (h : k < l.length) : (l.map Tk.enc)[k]? = some (l[k]'h).enc := by
  rw [List.getElem?_map, List.getElem?_eq_getElem h]; rfl
theorem tks_cells {l : List Tk} : ∀ x ∈ l.map Tk.enc, x.cells.length = 3 := fun x hx => by
  obtain ⟨e, _, rfl⟩ := List.mem_map.1 hx
  rfl

def idxT (l : List Tk) (x : Tk) : Int := match l.findIdx? (· == x) with | some k => k | none => -1

theorem indexT_ac (l : List Tk) (x : Tk) (hlen : l.length ≤ 1000000) : AC Try.prog 87 [.p (tks l), .p x.enc] [] (i64 (idxT l x)) [] := by
  refine AC.body T_ok mx_ok Try.func87 rfl rfl rfl rfl rfl rfl ?_
  conv => whnf
  refine loop_fam (ι := Nat) (fun k => [(0, .p (tks l)), (3, .ref 0 0), (7, i64 l.length), (8, i64 k)]) (fun _ => [(0, x.blk)]) 1 (fun k => k ≤ l.length ∧ ∀ e ∈ l.take k, ¬ e = x) (fun k => l.length - k) 0 []
    ⟨Nat.zero_le _, by simp⟩ ?_ ?_
  · refine ⟨rfl, by simp, ?_, ?_⟩
    · (repeat' (first | exact leSlots_nil | refine leSlots_cons ?_ rfl ?_)) <;> (first | exact DLeT.refl _ _ | (refine (DLe.p ?_).t _; (simp; done)) | skip)
    · (repeat' (first | exact leHeap_nil | refine leHeap_cons rfl ?_ rfl rfl ?_)) <;> (first | exact BLeT.refl _ | (refine BLeT.eq ?_; (simp; done)) | skip)
  · rintro k ⟨hk, hp⟩ R hR
    conv => whnf
    refine condB_split (fun h => ?_) (fun h => ?_)
    · have h : k < l.length := by simpa using h
      conv => whnf
      refine getP_intro (l[k].enc) (by first | omega | (dsimp only; omega) | (simp only [List.length_map]; omega)) (by simpa using tks_get h) ?_
      conv => whnf
      refine needP_intro (by kernel_rfl) ?_
      conv => whnf
      refine needP_intro (by kernel_rfl) ?_
      conv => whnf
      refine condB_split (fun h2 => ?_) (fun h2 => ?_)
      · have h2 : x = l[k] := by
          simp at h2
          obtain ⟨a1, a2, a3⟩ := h2
          cases x
          generalize l[k] = y at a1 a2 a3
          cases y
          simp_all
        conv => whnf
        refine DoneLe.p ?_
        have : l.findIdx? (· == x) = some k := by
          rw [List.findIdx?_eq_some_iff_getElem]
          refine ⟨h, by simp [h2], fun j hj => ?_⟩
          have := hp (l[j]'(by omega)) (List.mem_take_iff_getElem.2 ⟨j, by omega, rfl⟩)
          simpa using this
        simp only [idxT, this]
      · have h2 : ¬ x = l[k] := fun e => by rw [← e] at h2; simp at h2
        conv => whnf
        refine wrapP_intro (wrap64 (by first | omega | (dsimp only; omega) | (simp only [List.length_map]; omega)) (by first | omega | (dsimp only; omega) | (simp only [List.length_map]; omega))) ?_
        conv => whnf
        refine hR _ _ _ (k + 1) ⟨h, fun e he => ?_⟩ (by omega) ?_
        · rw [List.take_succ_eq_append_getElem h] at he
          rcases List.mem_append.1 he with he | he
          · exact hp e he
          · simp at he; subst he; exact fun e => h2 e.symm
        · refine ⟨rfl, by simp, ?_, ?_⟩
          · (repeat' (first | exact leSlots_nil | refine leSlots_cons ?_ rfl ?_)) <;> (first | exact DLeT.refl _ _ | (refine (DLe.p ?_).t _; (simp; done)) | skip)
          · (repeat' (first | exact leHeap_nil | refine leHeap_cons rfl ?_ rfl rfl ?_)) <;> (first | exact BLeT.refl _ | (refine BLeT.eq ?_; (simp; done)) | skip)
    · have h : ¬ k < l.length := by simpa using h
      conv => whnf
      refine DoneLe.p ?_
      have : l.findIdx? (· == x) = none := by
        rw [List.findIdx?_eq_none_iff]
        intro e he
        simpa using hp e (by rw [show k = l.length by omega, List.take_length]; exact he)
      simp only [idxT, this]

theorem containsT_ac (l : List Tk) (x : Tk) (hlen : l.length ≤ 1000000) : AC Try.prog 80 [.p (tks l), .p x.enc] [] (.p (.bool (decide (x ∈ l)))) [] := by
  refine AC.body T_ok mx_ok Try.func80 rfl rfl rfl rfl rfl rfl ?_
  conv => whnf
  refine (indexT_ac l x hlen).callP (by (repeat' (first | exact trivial | refine ⟨DLe.refl _, ?_⟩ | refine ⟨DLe.acc _ _, ?_⟩ | refine ⟨DLe.full _, ?_⟩ | refine ⟨DLe.nil, ?_⟩ | (refine ⟨DLe.p ?_, ?_⟩; focus (simp; done))))) ?_
  conv => whnf
  refine DoneLe.p ?_
  congr 1
  cases h : l.findIdx? (· == x) with
  | none =>
    have h2 : ¬ x ∈ l := by
      rw [List.findIdx?_eq_none_iff] at h
      intro hx; have := h x hx; simp at this
    simp [idxT, h, h2]
  | some k =>
    have h2 : x ∈ l := by
      rw [List.findIdx?_eq_some_iff_getElem] at h
      obtain ⟨h1, h3, _⟩ := h
      have h3 : l[k] = x := by simpa using h3
      exact h3 ▸ List.getElem_mem h1
    simp [idxT, h, h2]

def takeOk (done : Nat → Bool) (x : Ev) : Bool := x.kind == 1 && done x.tr.toNat && !(x.fr == x.tr) && !(decide (0 ≤ x.fr) && !done x.fr.toNat)
def Ev.tk (x : Ev) : Tk := ⟨x.tr, x.key, x.fr⟩
def takeStep (done : Nat → Bool) (out : List Tk) (x : Ev) : List Tk := if takeOk done x then (if x.tk ∈ out then out else out ++ [x.tk]) else out
def takesL (h : Hist) : List Tk := h.events.foldl (takeStep (doneF h.events)) []
def takesTo (h : Hist) (k : Nat) : List Tk := (h.events.take k).foldl (takeStep (doneF h.events)) []
theorem takesTo_succ {h : Hist} {k : Nat} (hk : k < h.events.length) : takesTo h (k + 1) = takeStep (doneF h.events) (takesTo h k) h.events[k] := by
  simp only [takesTo]
  rw [List.take_succ_eq_append_getElem hk, List.foldl_append]
  rfl
theorem takesTo_len (h : Hist) (k : Nat) : (takesTo h k).length ≤ k := by
  have : ∀ (l : List Ev) (out : List Tk), (l.foldl (takeStep (doneF h.events)) out).length ≤ out.length + l.length := by
    intro l
    induction l with
    | nil => intro out; simp
    | cons x l ih =>
      intro out
      have h1 := ih (takeStep (doneF h.events) out x)
      have h2 : (takeStep (doneF h.events) out x).length ≤ out.length + 1 := by
        unfold takeStep
        split
        · split <;> simp
        · omega
      simp only [List.foldl_cons, List.length_cons]; omega
  have h1 := this (h.events.take k) []
  simp only [takesTo, List.length_take, List.length_nil] at h1 ⊢
  omega

/-- the events of a valid history that are read from, or not. -/
def Hist.okF (h : Hist) : Prop := ∀ e ∈ h.events, e.kind = 1 → e.fr < 5

theorem takes_ac (h : Hist) (hv : h.ok) (hf : h.okF) : AC Try.prog 59 [.p h.enc] [] (.p (tks (takesL h))) [] := by
  have hv0 := hv
  obtain ⟨_, hl, hv⟩ := hv
  refine AC.body T_ok mx_ok Try.func59 rfl rfl rfl rfl rfl rfl ?_
  conv => whnf
  refine (committed_ac h hv0).callP (by (repeat' (first | exact trivial | refine ⟨DLe.refl _, ?_⟩ | refine ⟨DLe.acc _ _, ?_⟩ | refine ⟨DLe.full _, ?_⟩ | refine ⟨DLe.nil, ?_⟩ | (refine ⟨DLe.p ?_, ?_⟩; focus (simp; done))))) ?_
  conv => whnf
  refine loop_fam (ι := Nat) (fun k => [(3, .ref 1 0), (4, .acc 2 ((takesTo h k).map Tk.enc)), (11, .p (evs h.events)), (12, i64 h.events.length), (13, i64 k)])
    (fun k => [(1, .cells 83 (boolsD (doneF h.events))), (2, .tok 110 3 (takesTo h k).length)]) 3
    (fun k => k ≤ h.events.length) (fun k => h.events.length - k) 0 [2] (Nat.zero_le _) ⟨rfl, by simp, ?_, ?_⟩ ?_
  · refine leSlots_cons (DLeT.refl _ _) rfl (leSlots_cons (DLeT.nil (by simp)) rfl ?_)
    (repeat' (first | exact leSlots_nil | refine leSlots_cons ?_ rfl ?_)) <;> (first | exact DLeT.refl _ _ | (refine (DLe.p ?_).t _; (simp; done)) | skip)
  · exact leHeap_cons rfl (BLeT.refl _) rfl rfl (leHeap_tok (by simp) rfl leHeap_nil)
  · rintro k hk R hR
    conv => whnf
    refine condB_split (fun h3 => ?_) (fun h3 => ?_)
    · have h3 : k < h.events.length := by simpa using h3
      have hr := hv _ (List.getElem_mem h3)
      have hrf := hf _ (List.getElem_mem h3)
      conv => whnf
      refine getP_intro (h.events[k].enc) (by first | omega | (dsimp only; omega) | (simp only [List.length_map]; omega)) (by simpa using evs_get h3) ?_
      conv => whnf
      have back : ∀ (A' : Tmps) (H' : Heap) (nx' : Nat), takeStep (doneF h.events) (takesTo h k) h.events[k] = takesTo h k →
          leSt 0 [] nx' A' H' [(3, .ref 1 0), (4, .acc 2 ((takesTo h k).map Tk.enc)), (11, .p (evs h.events)), (12, i64 h.events.length), (13, i64 ((k : Int) + 1))]
            [(1, .cells 83 (boolsD (doneF h.events))), (2, .tok 110 3 (takesTo h k).length)] 3 → R A' H' nx' := fun A' H' nx' hs hle => by
        refine hR A' H' nx' (k + 1) h3 (by omega) ?_
        rw [takesTo_succ h3, hs]
        simpa using hle
      have htl := takesTo_len h k
      refine condB_split (fun h4 => ?_) (fun h4 => ?_)
      · have h4 : ¬ h.events[k].kind = 1 := by simpa using h4
        conv => whnf
        refine wrapP_intro (wrap64 (by first | omega | (dsimp only; omega) | (simp only [List.length_map]; omega)) (by first | omega | (dsimp only; omega) | (simp only [List.length_map]; omega))) ?_
        conv => whnf
        refine back _ _ _ (by simp [takeStep, takeOk, h4]) ?_
        refine ⟨rfl, by simp, ?_, ?_⟩
        · (repeat' (first | exact leSlots_nil | refine leSlots_cons ?_ rfl ?_)) <;> (first | exact DLeT.refl _ _ | (refine (DLe.p ?_).t _; (simp; done)) | skip)
        · (repeat' (first | exact leHeap_nil | refine leHeap_cons rfl ?_ rfl rfl ?_)) <;> (first | exact BLeT.refl _ | (refine BLeT.eq ?_; (simp; done)) | skip)
      have h4 : h.events[k].kind = 1 := by simpa using h4
      conv => whnf
      refine needP_intro (⟨by omega, by omega⟩) ?_
      conv => whnf
      refine getD_intro (.p (.bool (doneF h.events h.events[k].tr.toNat))) (by rw [Nat.zero_add, Nat.mul_one]; exact boolsD_get _ (by omega)) ?_
      conv => whnf
      refine condB_split (fun h5 => ?_) (fun h5 => ?_)
      · have h5 : doneF h.events h.events[k].tr.toNat = false := by simpa using h5
        conv => whnf
        refine wrapP_intro (wrap64 (by first | omega | (dsimp only; omega) | (simp only [List.length_map]; omega)) (by first | omega | (dsimp only; omega) | (simp only [List.length_map]; omega))) ?_
        conv => whnf
        refine back _ _ _ (by simp [takeStep, takeOk, h5]) ?_
        refine ⟨rfl, by simp, ?_, ?_⟩
        · (repeat' (first | exact leSlots_nil | refine leSlots_cons ?_ rfl ?_)) <;> (first | exact DLeT.refl _ _ | (refine (DLe.p ?_).t _; (simp; done)) | skip)
        · (repeat' (first | exact leHeap_nil | refine leHeap_cons rfl ?_ rfl rfl ?_)) <;> (first | exact BLeT.refl _ | (refine BLeT.eq ?_; (simp; done)) | skip)
      have h5 : doneF h.events h.events[k].tr.toNat = true := by simpa using h5
      conv => whnf
      refine condB_split (fun h6 => ?_) (fun h6 => ?_)
      · have h6 : h.events[k].fr = h.events[k].tr := by simpa using h6
        conv => whnf
        refine wrapP_intro (wrap64 (by first | omega | (dsimp only; omega) | (simp only [List.length_map]; omega)) (by first | omega | (dsimp only; omega) | (simp only [List.length_map]; omega))) ?_
        conv => whnf
        refine back _ _ _ (by simp [takeStep, takeOk, h6]) ?_
        refine ⟨rfl, by simp, ?_, ?_⟩
        · (repeat' (first | exact leSlots_nil | refine leSlots_cons ?_ rfl ?_)) <;> (first | exact DLeT.refl _ _ | (refine (DLe.p ?_).t _; (simp; done)) | skip)
        · (repeat' (first | exact leHeap_nil | refine leHeap_cons rfl ?_ rfl rfl ?_)) <;> (first | exact BLeT.refl _ | (refine BLeT.eq ?_; (simp; done)) | skip)
      have h6 : ¬ h.events[k].fr = h.events[k].tr := by simpa using h6
      conv => whnf
      refine condB_split (fun h7 => ?_) (fun h7 => ?_)
      · have h7 : 0 ≤ h.events[k].fr := by simpa using h7
        have hrf := hrf h4
        conv => whnf
        refine needP_intro (⟨by omega, by omega⟩) ?_
        conv => whnf
        refine getD_intro (.p (.bool (doneF h.events h.events[k].fr.toNat))) (by rw [Nat.zero_add, Nat.mul_one]; exact boolsD_get _ (by omega)) ?_
        conv => whnf
        refine condB_split (fun h8 => ?_) (fun h8 => ?_)
        · have h8 : doneF h.events h.events[k].fr.toNat = false := by simpa using h8
          conv => whnf
          refine wrapP_intro (wrap64 (by first | omega | (dsimp only; omega) | (simp only [List.length_map]; omega)) (by first | omega | (dsimp only; omega) | (simp only [List.length_map]; omega))) ?_
          conv => whnf
          refine back _ _ _ (by simp [takeStep, takeOk, h8, h7]) ?_
          refine ⟨rfl, by simp, ?_, ?_⟩
          · (repeat' (first | exact leSlots_nil | refine leSlots_cons ?_ rfl ?_)) <;> (first | exact DLeT.refl _ _ | (refine (DLe.p ?_).t _; (simp; done)) | skip)
          · (repeat' (first | exact leHeap_nil | refine leHeap_cons rfl ?_ rfl rfl ?_)) <;> (first | exact BLeT.refl _ | (refine BLeT.eq ?_; (simp; done)) | skip)
        · have h8 : doneF h.events h.events[k].fr.toNat = true := by simpa using h8
          have hok : takeOk (doneF h.events) h.events[k] = true := by simp [takeOk, h4, h5, h6, h8]
          conv => whnf
          refine (containsT_ac (takesTo h k) h.events[k].tk (by omega)).callP (by (repeat' (first | exact trivial | refine ⟨DLe.refl _, ?_⟩ | refine ⟨DLe.acc _ _, ?_⟩ | refine ⟨DLe.full _, ?_⟩ | refine ⟨DLe.nil, ?_⟩ | (refine ⟨DLe.p ?_, ?_⟩; focus (simp; done))))) ?_
          conv => whnf
          refine condB_split (fun h9 => ?_) (fun h9 => ?_)
          · have h9 : ¬ h.events[k].tk ∈ takesTo h k := by simpa using h9
            conv => whnf
            refine needP_intro (fun z hz => by simp at hz; subst hz; rfl) ?_
            conv => whnf
            refine needP_intro ((⟨by simp, fun z hz => by rcases List.mem_append.1 hz with hz | hz; exact tks_cells z hz; simp at hz; subst hz; rfl, by simp; omega⟩)) ?_
            conv => whnf
            refine wrapP_intro (wrap64 (by first | omega | (dsimp only; omega) | (simp only [List.length_map]; omega)) (by first | omega | (dsimp only; omega) | (simp only [List.length_map]; omega))) ?_
            conv => whnf
            have hs : takesTo h (k + 1) = takesTo h k ++ [h.events[k].tk] := by rw [takesTo_succ h3]; simp [takeStep, hok, h9]
            refine hR _ _ _ (k + 1) h3 (by omega) ⟨rfl, by simp, ?_, ?_⟩
            · refine leSlots_cons (DLeT.refl _ _) rfl (leSlots_cons ((DLe.eq ?_).t _) rfl ?_)
              · rw [hs, List.map_append]; rfl
              (repeat' (first | exact leSlots_nil | refine leSlots_cons ?_ rfl ?_)) <;> (first | exact DLeT.refl _ _ | (refine (DLe.p ?_).t _; (simp; done)) | skip)
            · refine leHeap_cons rfl (BLeT.refl _) rfl rfl (leHeap_cons rfl (BLeT.eq ?_) rfl rfl leHeap_nil)
              rw [hs]; simp
          · have h9 : h.events[k].tk ∈ takesTo h k := by simpa using h9
            conv => whnf
            refine wrapP_intro (wrap64 (by first | omega | (dsimp only; omega) | (simp only [List.length_map]; omega)) (by first | omega | (dsimp only; omega) | (simp only [List.length_map]; omega))) ?_
            conv => whnf
            refine back _ _ _ (by simp [takeStep, h9]) ?_
            refine ⟨rfl, by simp, ?_, ?_⟩
            · (repeat' (first | exact leSlots_nil | refine leSlots_cons ?_ rfl ?_)) <;> (first | exact DLeT.refl _ _ | (refine (DLe.p ?_).t _; (simp; done)) | skip)
            · (repeat' (first | exact leHeap_nil | refine leHeap_cons rfl ?_ rfl rfl ?_)) <;> (first | exact BLeT.refl _ | (refine BLeT.eq ?_; (simp; done)) | skip)
      · have h7 : ¬ 0 ≤ h.events[k].fr := by simpa using h7
        have hok : takeOk (doneF h.events) h.events[k] = true := by simp [takeOk, h4, h5, h6, h7]
        conv => whnf
        refine (containsT_ac (takesTo h k) h.events[k].tk (by omega)).callP (by (repeat' (first | exact trivial | refine ⟨DLe.refl _, ?_⟩ | refine ⟨DLe.acc _ _, ?_⟩ | refine ⟨DLe.full _, ?_⟩ | refine ⟨DLe.nil, ?_⟩ | (refine ⟨DLe.p ?_, ?_⟩; focus (simp; done))))) ?_
        conv => whnf
        refine condB_split (fun h9 => ?_) (fun h9 => ?_)
        · have h9 : ¬ h.events[k].tk ∈ takesTo h k := by simpa using h9
          conv => whnf
          refine needP_intro (fun z hz => by simp at hz; subst hz; rfl) ?_
          conv => whnf
          refine needP_intro ((⟨by simp, fun z hz => by rcases List.mem_append.1 hz with hz | hz; exact tks_cells z hz; simp at hz; subst hz; rfl, by simp; omega⟩)) ?_
          conv => whnf
          refine wrapP_intro (wrap64 (by first | omega | (dsimp only; omega) | (simp only [List.length_map]; omega)) (by first | omega | (dsimp only; omega) | (simp only [List.length_map]; omega))) ?_
          conv => whnf
          have hs : takesTo h (k + 1) = takesTo h k ++ [h.events[k].tk] := by rw [takesTo_succ h3]; simp [takeStep, hok, h9]
          refine hR _ _ _ (k + 1) h3 (by omega) ⟨rfl, by simp, ?_, ?_⟩
          · refine leSlots_cons (DLeT.refl _ _) rfl (leSlots_cons ((DLe.eq ?_).t _) rfl ?_)
            · rw [hs, List.map_append]; rfl
            (repeat' (first | exact leSlots_nil | refine leSlots_cons ?_ rfl ?_)) <;> (first | exact DLeT.refl _ _ | (refine (DLe.p ?_).t _; (simp; done)) | skip)
          · refine leHeap_cons rfl (BLeT.refl _) rfl rfl (leHeap_cons rfl (BLeT.eq ?_) rfl rfl leHeap_nil)
            rw [hs]; simp
        · have h9 : h.events[k].tk ∈ takesTo h k := by simpa using h9
          conv => whnf
          refine wrapP_intro (wrap64 (by first | omega | (dsimp only; omega) | (simp only [List.length_map]; omega)) (by first | omega | (dsimp only; omega) | (simp only [List.length_map]; omega))) ?_
          conv => whnf
          refine back _ _ _ (by simp [takeStep, h9]) ?_
          refine ⟨rfl, by simp, ?_, ?_⟩
          · (repeat' (first | exact leSlots_nil | refine leSlots_cons ?_ rfl ?_)) <;> (first | exact DLeT.refl _ _ | (refine (DLe.p ?_).t _; (simp; done)) | skip)
          · (repeat' (first | exact leHeap_nil | refine leHeap_cons rfl ?_ rfl rfl ?_)) <;> (first | exact BLeT.refl _ | (refine BLeT.eq ?_; (simp; done)) | skip)
    · have hkl : k = h.events.length := by simp at h3; omega
      subst hkl
      conv => whnf
      refine DoneLe.pure ((DLe.acc _ _).trans (DLe.p ?_)) (fun _ => rfl) rfl
      simp [takesTo, takesL, tks, List.take_length]
end Qa.S43

set_option maxRecDepth 100000
namespace Qa.S43
open Go Go.Proofs

theorem nan_ac (x : Int) : AC Try.prog 83 [i64 x] [] (.p (.bool false)) [] := by
  refine AC.body T_ok mx_ok Try.func83 rfl rfl rfl rfl rfl rfl ?_
  conv => whnf
  refine DoneLe.p ?_
  simp

def cmpI (x y : Int) : Int := if x < y then -1 else if y < x then 1 else 0

theorem compare_ac (x y : Int) : AC Try.prog 63 [i64 x, i64 y] [] (i64 (cmpI x y)) [] := by
  refine AC.body T_ok mx_ok Try.func63 rfl rfl rfl rfl rfl rfl ?_
  conv => whnf
  refine (nan_ac x).callP (by (repeat' (first | exact trivial | refine ⟨DLe.refl _, ?_⟩ | refine ⟨DLe.acc _ _, ?_⟩ | refine ⟨DLe.full _, ?_⟩ | refine ⟨DLe.nil, ?_⟩ | (refine ⟨DLe.p ?_, ?_⟩; focus (simp; done))))) ?_
  conv => whnf
  refine (nan_ac y).callP (by (repeat' (first | exact trivial | refine ⟨DLe.refl _, ?_⟩ | refine ⟨DLe.acc _ _, ?_⟩ | refine ⟨DLe.full _, ?_⟩ | refine ⟨DLe.nil, ?_⟩ | (refine ⟨DLe.p ?_, ?_⟩; focus (simp; done))))) ?_
  conv => whnf
  refine condB_split (fun h1 => ?_) (fun h1 => ?_)
  · conv => whnf
    refine DoneLe.p ?_
    have h1 : x < y := by simpa using h1
    simp [cmpI, h1]
  · have h1 : ¬ x < y := by simpa using h1
    conv => whnf
    refine condB_split (fun h2 => ?_) (fun h2 => ?_)
    · conv => whnf
      refine DoneLe.p ?_
      have h2 : y < x := by simpa using h2
      simp [cmpI, h1, h2]
    · conv => whnf
      refine DoneLe.p ?_
      have h2 : ¬ y < x := by simpa using h2
      simp [cmpI, h1, h2]

/-- the first number that is not 0. -/
def orI : List Int → Int
  | [] => 0
  | x :: l => if x = 0 then orI l else x

theorem or_ac (l : List Int) (hlen : l.length ≤ 1000000) : AC Try.prog 62 [.p (ints l)] [] (i64 (orI l)) [] := by
  refine AC.body T_ok mx_ok Try.func62 rfl rfl rfl rfl rfl rfl ?_
  conv => whnf
  refine loop_fam (ι := Nat) (fun k => [(3, i64 0), (6, .p (ints l)), (7, i64 l.length), (8, i64 k)]) (fun _ => []) 0 (fun k => k ≤ l.length ∧ orI (l.drop k) = orI l) (fun k => l.length - k) 0 []
    ⟨Nat.zero_le _, by simp⟩ ?_ ?_
  · refine ⟨rfl, by simp, ?_, ?_⟩
    · (repeat' (first | exact leSlots_nil | refine leSlots_cons ?_ rfl ?_)) <;> (first | exact DLeT.refl _ _ | (refine (DLe.p ?_).t _; (simp; done)) | skip)
    · (repeat' (first | exact leHeap_nil | refine leHeap_cons rfl ?_ rfl rfl ?_)) <;> (first | exact BLeT.refl _ | (refine BLeT.eq ?_; (simp; done)) | skip)
  · rintro k ⟨hk, hp⟩ R hR
    conv => whnf
    refine condB_split (fun h => ?_) (fun h => ?_)
    · have h : k < l.length := by simpa using h
      rw [List.drop_eq_getElem_cons h] at hp
      conv => whnf
      refine getP_intro (.int .i64 l[k]) (by first | omega | (dsimp only; omega) | (simp only [List.length_map]; omega)) (by simp) ?_
      conv => whnf
      refine condB_split (fun h2 => ?_) (fun h2 => ?_)
      · have h2 : ¬ l[k] = 0 := by simpa using h2
        conv => whnf
        refine DoneLe.p ?_
        simp only [orI, h2, if_false] at hp
        rw [← hp]
      · have h2 : l[k] = 0 := by simpa using h2
        simp only [orI, h2, if_true] at hp
        conv => whnf
        refine wrapP_intro (wrap64 (by first | omega | (dsimp only; omega) | (simp only [List.length_map]; omega)) (by first | omega | (dsimp only; omega) | (simp only [List.length_map]; omega))) ?_
        conv => whnf
        refine hR _ _ _ (k + 1) ⟨h, hp⟩ (by omega) ?_
        refine ⟨rfl, by simp, ?_, ?_⟩
        · (repeat' (first | exact leSlots_nil | refine leSlots_cons ?_ rfl ?_)) <;> (first | exact DLeT.refl _ _ | (refine (DLe.p ?_).t _; (simp; done)) | skip)
        · (repeat' (first | exact leHeap_nil | refine leHeap_cons rfl ?_ rfl rfl ?_)) <;> (first | exact BLeT.refl _ | (refine BLeT.eq ?_; (simp; done)) | skip)
    · have h : k = l.length := by simp at h; omega
      subst h
      conv => whnf
      refine DoneLe.p ?_
      rw [← hp]; simp [orI]

-- dependencies
structure Ed where
  fr : Int
  to : Int
  kind : Int
  key : Int
  deriving DecidableEq
def Ed.cs (e : Ed) : List Pd := [.int .i64 e.fr, .int .i64 e.to, .int .i64 e.kind, .int .i64 e.key]
def Ed.enc (e : Ed) : Pd := .agg e.cs
def Ed.blk (e : Ed) : Blk := .cells 54 [i64 e.fr, i64 e.to, i64 e.kind, i64 e.key]
def eds (l : List Ed) : Pd := .list (l.map Ed.enc)
theorem eds_get {l : List Ed} {k : Nat} (h : k < l.length) : (l.map Ed.enc)[k]? = some (l[k]'h).enc := by
  rw [List.getElem?_map, List.getElem?_eq_getElem h]; rfl
theorem eds_cells {l : List Ed} : ∀ x ∈ l.map Ed.enc, x.cells.length = 4 := fun x hx => by
  obtain ⟨e, _, rfl⟩ := List.mem_map.1 hx
  rfl

def cmpE (a b : Ed) : Int := orI [cmpI a.fr b.fr, cmpI a.to b.to, cmpI a.kind b.kind, cmpI a.key b.key]

theorem cmpE_ac (a b : Ed) : AC Try.prog 61 [.p a.enc, .p b.enc] [] (i64 (cmpE a b)) [] := by
  refine AC.body T_ok mx_ok Try.func61 rfl rfl rfl rfl rfl rfl ?_
  conv => whnf
  refine (compare_ac a.fr b.fr).callP (by (repeat' (first | exact trivial | refine ⟨DLe.refl _, ?_⟩ | refine ⟨DLe.acc _ _, ?_⟩ | refine ⟨DLe.full _, ?_⟩ | refine ⟨DLe.nil, ?_⟩ | (refine ⟨DLe.p ?_, ?_⟩; focus (simp; done))))) ?_
  conv => whnf
  refine (compare_ac a.to b.to).callP (by (repeat' (first | exact trivial | refine ⟨DLe.refl _, ?_⟩ | refine ⟨DLe.acc _ _, ?_⟩ | refine ⟨DLe.full _, ?_⟩ | refine ⟨DLe.nil, ?_⟩ | (refine ⟨DLe.p ?_, ?_⟩; focus (simp; done))))) ?_
  conv => whnf
  refine (compare_ac a.kind b.kind).callP (by (repeat' (first | exact trivial | refine ⟨DLe.refl _, ?_⟩ | refine ⟨DLe.acc _ _, ?_⟩ | refine ⟨DLe.full _, ?_⟩ | refine ⟨DLe.nil, ?_⟩ | (refine ⟨DLe.p ?_, ?_⟩; focus (simp; done))))) ?_
  conv => whnf
  refine (compare_ac a.key b.key).callP (by (repeat' (first | exact trivial | refine ⟨DLe.refl _, ?_⟩ | refine ⟨DLe.acc _ _, ?_⟩ | refine ⟨DLe.full _, ?_⟩ | refine ⟨DLe.nil, ?_⟩ | (refine ⟨DLe.p ?_, ?_⟩; focus (simp; done))))) ?_
  conv => whnf
  refine needP_intro (fun x hx => by simp at hx; rcases hx with rfl | rfl | rfl | rfl <;> rfl) ?_
  conv => whnf
  refine (or_ac [cmpI a.fr b.fr, cmpI a.to b.to, cmpI a.kind b.kind, cmpI a.key b.key] (by simp)).callP ⟨?_, trivial⟩ ?_
  · exact DLe.full _
  conv => whnf
  refine needP_intro (by kernel_rfl) ?_
  conv => whnf
  refine DoneLe.p ?_
  rfl
def vecE (v : Nat) (l : List Ed) : Blk := .vec 54 4 v (l.map Ed.enc)
def T9 : Ty := T.mut 49 2
theorem T9_ok : TyOk Try.prog T9 := T_ok.mut 49 2
def addB (f t : Int) : Bool := decide (0 ≤ f) && decide (0 ≤ t) && !decide (f = t)
def Ed.ok (e : Ed) : Bool := addB e.fr e.to
def addE (l : List Ed) (e : Ed) : List Ed := if e.ok then l ++ [e] else l
def addV (v : Nat) (e : Ed) : Nat := if e.ok then v + 1 else v

theorem add_ac (e : Ed) (v : Nat) (l : List Ed) (hlen : l.length ≤ 1000000) :
    AC Try.prog 57 [i64 e.fr, i64 e.to, i64 e.kind, i64 e.key, .ref 0 0] [.cells 49 [.vec 1 v 4 0 l.length], vecE v l] (.tup [])
      [.cells 49 [.vec 1 (addV v e) 4 0 (addE l e).length], vecE (addV v e) (addE l e)] := by
  refine AC.body T9_ok mx_ok Try.func57 rfl rfl rfl rfl rfl rfl ?_
  conv => whnf
  refine condB_split (fun h1 => ?_) (fun h1 => ?_)
  · have h1 : 0 ≤ e.fr := by simpa using h1
    conv => whnf
    refine condB_split (fun h2 => ?_) (fun h2 => ?_)
    · have h2 : 0 ≤ e.to := by simpa using h2
      conv => whnf
      refine condB_split (fun h3 => ?_) (fun h3 => ?_)
      · have h3 : ¬ e.fr = e.to := by simpa using h3
        have hok : e.ok = true := by simp [Ed.ok, addB, h1, h2, h3]
        have e1 : addV v e = v + 1 := by simp [addV, hok]
        have e2 : addE l e = l ++ [e] := by simp [addE, hok]
        rw [e1, e2]
        conv => whnf
        refine needP_intro (fun z hz => by simp at hz; subst hz; rfl) ?_
        conv => whnf
        refine needP_intro (⟨rfl, by omega, by simp⟩) ?_
        conv => whnf
        refine needP_intro (⟨rfl, rfl, by simp, by simp, fun y hy => by simp at hy; subst hy; rfl, by simp; omega⟩) ?_
        conv => whnf
        refine DoneLe.mk [0, 1] rfl rfl (ldHeap_cons rfl (BLe.cells rfl ⟨DLe.eq ?_, trivial⟩) rfl (ldHeap_cons rfl (BLe.eq ?_) rfl ldHeap_nil)) (DLe.refl _) rfl rfl
        · simp; rfl
        · simp [vecE, Blk.ren]
          exact ⟨List.take_of_length_le (by simp), rfl⟩
      · have h3 : e.fr = e.to := by simpa using h3
        have hok : e.ok = false := by simp [Ed.ok, addB, h3]
        have e1 : addV v e = v := by simp [addV, hok]
        have e2 : addE l e = l := by simp [addE, hok]
        rw [e1, e2]
        conv => whnf
        exact DoneLe.mk [0, 1] rfl rfl (ldHeap_cons rfl (BLe.refl _) rfl (ldHeap_cons rfl (BLe.refl _) rfl ldHeap_nil)) (DLe.refl _) rfl rfl
    · have h2 : ¬ 0 ≤ e.to := by simpa using h2
      have hok : e.ok = false := by simp [Ed.ok, addB, h2]
      have e1 : addV v e = v := by simp [addV, hok]
      have e2 : addE l e = l := by simp [addE, hok]
      rw [e1, e2]
      conv => whnf
      exact DoneLe.mk [0, 1] rfl rfl (ldHeap_cons rfl (BLe.refl _) rfl (ldHeap_cons rfl (BLe.refl _) rfl ldHeap_nil)) (DLe.refl _) rfl rfl
  · have h1 : ¬ 0 ≤ e.fr := by simpa using h1
    have hok : e.ok = false := by simp [Ed.ok, addB, h1]
    have e1 : addV v e = v := by simp [addV, hok]
    have e2 : addE l e = l := by simp [addE, hok]
    rw [e1, e2]
    conv => whnf
    exact DoneLe.mk [0, 1] rfl rfl (ldHeap_cons rfl (BLe.refl _) rfl (ldHeap_cons rfl (BLe.refl _) rfl ldHeap_nil)) (DLe.refl _) rfl rfl
end Qa.S43

set_option maxRecDepth 100000
namespace Qa.S43
open Go Go.Proofs

/-- the elements up to an index that differ from the one before. -/
def compTo (l : List Ed) : Nat → List Ed
  | 0 => []
  | m + 1 => match l[m]? with
    | none => compTo l m
    | some x => if 0 < m ∧ l[m - 1]? = some x then compTo l m else compTo l m ++ [x]
def compL (l : List Ed) : List Ed := compTo l l.length
theorem compTo_len (l : List Ed) : ∀ m, (compTo l m).length ≤ m
  | 0 => Nat.le_refl _
  | m + 1 => by
    have := compTo_len l m
    simp only [compTo]
    split
    · omega
    · split
      · omega
      · simp; omega
def Ed.z : Ed := ⟨0, 0, 0, 0⟩
def compV (l : List Ed) : List Ed := compL l ++ List.replicate (l.length - (compL l).length) Ed.z

theorem ed_t {x y : Ed} (h : ((x.fr == y.fr) && ((x.to == y.to) && ((x.kind == y.kind) && ((x.key == y.key) && true)))) = true) : x = y := by
  cases x; cases y; simpa using h
theorem ed_f {x y : Ed} (h : ((x.fr == y.fr) && ((x.to == y.to) && ((x.kind == y.kind) && ((x.key == y.key) && true)))) = false) : ¬ x = y := fun e => by
  subst e; simp at h
theorem compTo_same {l : List Ed} {k : Nat} (h : k < l.length) (h0 : 0 < k) (e : l[k] = l[k - 1]) : compTo l (k + 1) = compTo l k := by
  simp only [compTo]
  rw [List.getElem?_eq_getElem h]
  simp [h0, e]
theorem compTo_other {l : List Ed} {k : Nat} (h : k < l.length) (e : ¬ l[k] = l[k - 1]) : compTo l (k + 1) = compTo l k ++ [l[k]] := by
  simp only [compTo]
  rw [List.getElem?_eq_getElem h]
  have : ¬ (0 < k ∧ l[k - 1]? = some l[k]) := fun ⟨h0, h1⟩ => by
    rw [List.getElem?_eq_getElem (by omega)] at h1
    exact e (by simpa using h1.symm)
  simp only [this, if_false]

theorem compact_ac (l : List Ed) (v : Nat) (hlen : l.length ≤ 1000000) : AC Try.prog 64 [.vec 0 v 4 0 l.length] [vecE v l] (.vec 0 v 4 0 (compL l).length) [vecE v (compV l)] := by
  refine AC.body T_ok mx_ok Try.func64 rfl rfl rfl rfl rfl rfl ?_
  conv => whnf
  refine condB_split (fun h1 => ?_) (fun h1 => ?_)
  · have h1 : l.length < 2 := by simp at h1; omega
    have e1 : compL l = l := by
      match l, h1 with
      | [], _ => rfl
      | [x], _ => simp [compL, compTo]
    have e2 : compV l = l := by simp [compV, e1]
    rw [e1, e2]
    conv => whnf
    exact DoneLe.mk [0] rfl rfl (ldHeap_cons rfl (BLe.refl _) rfl ldHeap_nil) (DLe.refl _) rfl rfl
  have h1 : 2 ≤ l.length := by simp at h1; omega
  conv => whnf
  refine loop_fam (ι := Nat) (fun k => [(0, .vec 0 v 4 0 l.length), (3, i64 k)]) (fun _ => [(0, vecE v l)]) 1 (fun k => 1 ≤ k ∧ k ≤ l.length ∧ compTo l k = l.take k) (fun k => l.length - k) 1 []
    ⟨Nat.le_refl _, by omega, ?_⟩ ?_ ?_
  · match l, h1 with
    | x :: r, _ => simp [compTo]
  · refine ⟨rfl, by simp, ?_, ?_⟩
    · (repeat' (first | exact leSlots_nil | refine leSlots_cons ?_ rfl ?_)) <;> (first | exact DLeT.refl _ _ | (refine (DLe.p ?_).t _; (simp; done)) | skip)
    · (repeat' (first | exact leHeap_nil | refine leHeap_cons rfl ?_ rfl rfl ?_)) <;> (first | exact BLeT.refl _ | (refine BLeT.eq ?_; (simp; done)) | skip)
  · rintro k ⟨hk1, hk, hp⟩ R hR
    conv => whnf
    refine condB_split (fun h => ?_) (fun h => ?_)
    · have h : k < l.length := by simpa using h
      have hk2 : ((k : Int) - 1).toNat = k - 1 := by omega
      conv => whnf
      refine needP_intro (⟨rfl, by omega, by omega⟩) ?_
      conv => whnf
      refine needP_intro rfl ?_
      refine getP_intro (l[k].enc) (by first | omega | (dsimp only; omega) | (simp only [List.length_map]; omega)) (by simp [h]) ?_
      conv => whnf
      refine wrapP_intro (wrap64 (by first | omega | (dsimp only; omega) | (simp only [List.length_map]; omega)) (by first | omega | (dsimp only; omega) | (simp only [List.length_map]; omega))) ?_
      conv => whnf
      refine needP_intro (⟨rfl, by omega, by omega⟩) ?_
      conv => whnf
      refine needP_intro rfl ?_
      refine getP_intro (l[k - 1].enc) (by first | omega | (dsimp only; omega) | (simp only [List.length_map]; omega)) (by rw [Nat.zero_add, hk2]; exact eds_get (by omega)) ?_
      conv => whnf
      refine needP_intro (by kernel_rfl) ?_
      conv => whnf
      refine needP_intro (by kernel_rfl) ?_
      conv => whnf
      refine condB_split (fun h2 => ?_) (fun h2 => ?_)
      · have h2 : l[k] = l[k - 1] := ed_t h2
        conv => whnf
        refine needP_intro (⟨rfl, by omega, by omega, by omega⟩) ?_
        conv => whnf
        have hc1 : compTo l (k + 1) = l.take k := by rw [compTo_same h (by omega) h2, hp]
        refine loop_fam (ι := Nat × List Ed) (fun s => [(0, .vec 0 v 4 0 l.length), (3, i64 (compTo l (k + s.1)).length), (4, .vec 0 v 4 k (l.length - k)), (5, i64 s.1)]) (fun s => [(0, vecE v s.2)]) 1
          (fun s => 1 ≤ s.1 ∧ k + s.1 ≤ l.length ∧ s.2.length = l.length ∧ s.2.drop (k + s.1 - 1) = l.drop (k + s.1 - 1) ∧ s.2.take (compTo l (k + s.1)).length = compTo l (k + s.1) ∧ (compTo l (k + s.1)).length ≤ k + s.1 - 1)
          (fun s => l.length - s.1) (1, l) [] ⟨Nat.le_refl _, by dsimp only; omega, rfl, rfl, ?_, ?_⟩ ⟨rfl, by simp, ?_, ?_⟩ ?_
        · dsimp only; rw [hc1]; simp
        · dsimp only; rw [hc1]; simp; omega
        · refine leSlots_cons (DLeT.refl _ _) rfl (leSlots_cons ((DLe.p ?_).t _) rfl (leSlots_cons ((DLe.eq ?_).t _) rfl ?_))
          · dsimp only; rw [hc1]; simp; omega
          · simp; rfl
          (repeat' (first | exact leSlots_nil | refine leSlots_cons ?_ rfl ?_)) <;> (first | exact DLeT.refl _ _ | (refine (DLe.p ?_).t _; (simp; done)) | skip)
        · (repeat' (first | exact leHeap_nil | refine leHeap_cons rfl ?_ rfl rfl ?_)) <;> (first | exact BLeT.refl _ | (refine BLeT.eq ?_; (simp; done)) | skip)
        · rintro ⟨q, c⟩ ⟨hq1, hq, hc, hd, ht, hkl⟩ R hR
          dsimp only at hq1 hq hc hd ht hkl
          conv => whnf
          refine condB_split (fun h5 => ?_) (fun h5 => ?_)
          · have h5 : k + q < l.length := by simp at h5; omega
            have hq2 : ((q : Int) - 1).toNat = q - 1 := by omega
            have get : ∀ j, k + q - 1 ≤ j → (hj : j < l.length) → (c.map Ed.enc)[j]? = some l[j].enc := fun j h1 hj => by
              have := congrArg (fun z => z[j - (k + q - 1)]?) hd
              simp only [List.getElem?_drop, show k + q - 1 + (j - (k + q - 1)) = j by omega] at this
              rw [List.getElem?_map, this, List.getElem?_eq_getElem hj]; rfl
            conv => whnf
            refine needP_intro (⟨rfl, by omega, by omega⟩) ?_
            conv => whnf
            refine needP_intro rfl ?_
            refine getP_intro (l[k + q].enc) (by first | omega | (dsimp only; omega) | (simp only [List.length_map]; omega)) (get _ (by omega) h5) ?_
            conv => whnf
            refine wrapP_intro (wrap64 (by first | omega | (dsimp only; omega) | (simp only [List.length_map]; omega)) (by first | omega | (dsimp only; omega) | (simp only [List.length_map]; omega))) ?_
            conv => whnf
            refine needP_intro (⟨rfl, by omega, by omega⟩) ?_
            conv => whnf
            refine needP_intro rfl ?_
            refine getP_intro (l[k + q - 1].enc) (by first | omega | (dsimp only; omega) | (simp only [List.length_map]; omega)) (by rw [hq2, show k + (q - 1) = k + q - 1 by omega]; exact get _ (by omega) (by omega)) ?_
            conv => whnf
            refine needP_intro (by kernel_rfl) ?_
            conv => whnf
            refine needP_intro (by kernel_rfl) ?_
            conv => whnf
            refine condB_split (fun h6 => ?_) (fun h6 => ?_)
            · have h6 : ¬ l[k + q] = l[k + q - 1] := fun e => by rw [e] at h6; simp at h6
              have hs : compTo l (k + (q + 1)) = compTo l (k + q) ++ [l[k + q]] := compTo_other h5 h6
              conv => whnf
              refine needP_intro (⟨rfl, by omega, by dsimp only; omega⟩) ?_
              conv => whnf
              refine needP_intro rfl ?_
              refine getP_intro (l[k + q].enc) (by first | omega | (dsimp only; omega) | (simp only [List.length_map]; omega)) (get _ (by omega) h5) ?_
              conv => whnf
              refine needP_intro (⟨rfl, by omega, by dsimp only; omega⟩) ?_
              conv => whnf
              refine needP_intro (⟨rfl, by simp; omega, rfl⟩) ?_
              conv => whnf
              refine wrapP_intro (wrap64 (by first | omega | (dsimp only; omega) | (simp only [List.length_map]; omega)) (by first | omega | (dsimp only; omega) | (simp only [List.length_map]; omega))) ?_
              conv => whnf
              refine wrapP_intro (wrap64 (by first | omega | (dsimp only; omega) | (simp only [List.length_map]; omega)) (by first | omega | (dsimp only; omega) | (simp only [List.length_map]; omega))) ?_
              conv => whnf
              refine hR _ _ _ (q + 1, c.set (compTo l (k + q)).length l[k + q]) ⟨by dsimp only; omega, by dsimp only; omega, by simp [hc], ?_, ?_, ?_⟩ (by dsimp only; omega) ⟨rfl, by simp, ?_, ?_⟩
              · dsimp only
                rw [List.drop_set_of_lt (by omega), show k + (q + 1) - 1 = (k + q - 1) + 1 by omega, ← List.drop_drop, ← List.drop_drop, hd]
              · dsimp only
                rw [hs, List.length_append, List.length_singleton, List.take_succ_eq_append_getElem (by simp; omega), List.take_set_of_le (Nat.le_refl _), ht]
                simp
              · dsimp only; rw [hs]; simp; omega
              · refine leSlots_cons (DLeT.refl _ _) rfl (leSlots_cons ((DLe.p ?_).t _) rfl ?_)
                · dsimp only; rw [hs]; simp
                (repeat' (first | exact leSlots_nil | refine leSlots_cons ?_ rfl ?_)) <;> (first | exact DLeT.refl _ _ | (refine (DLe.p ?_).t _; (simp; done)) | skip)
              · refine leHeap_cons rfl (BLeT.eq ?_) rfl rfl leHeap_nil
                simp [vecE, List.map_set]
                rfl
            · have h6 : l[k + q] = l[k + q - 1] := ed_t (by simpa using h6)
              have hs : compTo l (k + (q + 1)) = compTo l (k + q) := compTo_same (k := k + q) h5 (by omega) h6
              conv => whnf
              refine wrapP_intro (wrap64 (by first | omega | (dsimp only; omega) | (simp only [List.length_map]; omega)) (by first | omega | (dsimp only; omega) | (simp only [List.length_map]; omega))) ?_
              conv => whnf
              refine hR _ _ _ (q + 1, c) ⟨by dsimp only; omega, by dsimp only; omega, hc, ?_, ?_, ?_⟩ (by dsimp only; omega) ⟨rfl, by simp, ?_, ?_⟩
              · dsimp only
                rw [show k + (q + 1) - 1 = (k + q - 1) + 1 by omega, ← List.drop_drop, ← List.drop_drop, hd]
              · dsimp only; rw [hs]; exact ht
              · dsimp only; rw [hs]; omega
              · dsimp only; rw [hs]
                (repeat' (first | exact leSlots_nil | refine leSlots_cons ?_ rfl ?_)) <;> (first | exact DLeT.refl _ _ | (refine (DLe.p ?_).t _; (simp; done)) | skip)
              · (repeat' (first | exact leHeap_nil | refine leHeap_cons rfl ?_ rfl rfl ?_)) <;> (first | exact BLeT.refl _ | (refine BLeT.eq ?_; (simp; done)) | skip)
          · have h5 : k + q = l.length := by simp at h5; omega
            rw [h5] at ht hkl
            rw [h5]
            change List.take (compL l).length c = compL l at ht
            change (compL l).length ≤ l.length - 1 at hkl
            clear hR
            change aexec _ _ _ _ _ _ _ _
            conv => whnf
            have e0 : (compTo l l.length).length = (compL l).length := rfl
            have hcl := compTo_len l l.length
            refine needP_intro (⟨rfl, by omega, by omega, by omega⟩) ?_
            conv => whnf
            refine needP_intro (⟨rfl, by simp [hc]; omega⟩) ?_
            conv => whnf
            refine needP_intro (⟨rfl, by omega, by omega, by omega⟩) ?_
            conv => whnf
            refine DoneLe.mk [0] rfl rfl (ldHeap_cons rfl (BLe.eq ?_) rfl ldHeap_nil) (DLe.eq ?_) rfl rfl
            · have e : (c.map Ed.enc).take (0 + ((compL l).length : Int).toNat) ++ List.replicate ((l.length : Int).toNat - ((compL l).length : Int).toNat) Ed.z.enc ++
                  (c.map Ed.enc).drop (0 + ((compL l).length : Int).toNat + ((l.length : Int).toNat - ((compL l).length : Int).toNat)) = (compV l).map Ed.enc := by
                rw [List.drop_eq_nil_of_le (by simp [hc]; omega)]
                simp only [Int.toNat_natCast, Nat.zero_add, ← List.map_take, ht, compV, List.map_append, List.map_replicate, List.append_nil]
              exact congrArg (Blk.vec 54 4 v) e
            · show D.vec 0 v 4 (0 + (0 : Int).toNat) (((compL l).length : Int).toNat - (0 : Int).toNat) = D.vec 0 v 4 0 (compL l).length
              simp
      · have h2 : ¬ l[k] = l[k - 1] := ed_f h2
        conv => whnf
        refine wrapP_intro (wrap64 (by first | omega | (dsimp only; omega) | (simp only [List.length_map]; omega)) (by first | omega | (dsimp only; omega) | (simp only [List.length_map]; omega))) ?_
        conv => whnf
        refine hR _ _ _ (k + 1) ⟨by omega, h, ?_⟩ (by omega) ?_
        · rw [compTo_other h h2, hp, List.take_succ_eq_append_getElem h]
        refine ⟨rfl, by simp, ?_, ?_⟩
        · (repeat' (first | exact leSlots_nil | refine leSlots_cons ?_ rfl ?_)) <;> (first | exact DLeT.refl _ _ | (refine (DLe.p ?_).t _; (simp; done)) | skip)
        · (repeat' (first | exact leHeap_nil | refine leHeap_cons rfl ?_ rfl rfl ?_)) <;> (first | exact BLeT.refl _ | (refine BLeT.eq ?_; (simp; done)) | skip)
    · have h : k = l.length := by simp at h; omega
      subst h
      have e1 : compL l = l := by simpa [compL] using hp
      have e2 : compV l = l := by simp [compV, e1]
      rw [e1, e2]
      conv => whnf
      exact DoneLe.mk [0] rfl rfl (ldHeap_cons rfl (BLe.refl _) rfl ldHeap_nil) (DLe.refl _) rfl rfl
end Qa.S43

set_option maxRecDepth 100000
namespace Qa.S43
open Go Go.Proofs

-- graphs: 25 plain dependencies, 25 others
def gP (f : Nat → Bool) : List Pd := [.bool (f 0), .bool (f 1), .bool (f 2), .bool (f 3), .bool (f 4), .bool (f 5), .bool (f 6), .bool (f 7), .bool (f 8), .bool (f 9), .bool (f 10), .bool (f 11), .bool (f 12), .bool (f 13), .bool (f 14), .bool (f 15), .bool (f 16), .bool (f 17), .bool (f 18), .bool (f 19), .bool (f 20), .bool (f 21), .bool (f 22), .bool (f 23), .bool (f 24), .bool (f 25), .bool (f 26), .bool (f 27), .bool (f 28), .bool (f 29), .bool (f 30), .bool (f 31), .bool (f 32), .bool (f 33), .bool (f 34), .bool (f 35), .bool (f 36), .bool (f 37), .bool (f 38), .bool (f 39), .bool (f 40), .bool (f 41), .bool (f 42), .bool (f 43), .bool (f 44), .bool (f 45), .bool (f 46), .bool (f 47), .bool (f 48), .bool (f 49)]
def gD (f : Nat → Bool) : List D := [.p (.bool (f 0)), .p (.bool (f 1)), .p (.bool (f 2)), .p (.bool (f 3)), .p (.bool (f 4)), .p (.bool (f 5)), .p (.bool (f 6)), .p (.bool (f 7)), .p (.bool (f 8)), .p (.bool (f 9)), .p (.bool (f 10)), .p (.bool (f 11)), .p (.bool (f 12)), .p (.bool (f 13)), .p (.bool (f 14)), .p (.bool (f 15)), .p (.bool (f 16)), .p (.bool (f 17)), .p (.bool (f 18)), .p (.bool (f 19)), .p (.bool (f 20)), .p (.bool (f 21)), .p (.bool (f 22)), .p (.bool (f 23)), .p (.bool (f 24)), .p (.bool (f 25)), .p (.bool (f 26)), .p (.bool (f 27)), .p (.bool (f 28)), .p (.bool (f 29)), .p (.bool (f 30)), .p (.bool (f 31)), .p (.bool (f 32)), .p (.bool (f 33)), .p (.bool (f 34)), .p (.bool (f 35)), .p (.bool (f 36)), .p (.bool (f 37)), .p (.bool (f 38)), .p (.bool (f 39)), .p (.bool (f 40)), .p (.bool (f 41)), .p (.bool (f 42)), .p (.bool (f 43)), .p (.bool (f 44)), .p (.bool (f 45)), .p (.bool (f 46)), .p (.bool (f 47)), .p (.bool (f 48)), .p (.bool (f 49))]
def gEnc (f : Nat → Bool) : Pd := .agg (gP f)
def gBlk (f : Nat → Bool) : Blk := .cells 86 (gD f)
theorem gD_eq (f : Nat → Bool) : gD f = (List.range 50).map fun i => .p (.bool (f i)) := rfl
theorem gD_set (f : Nat → Bool) (i : Nat) (b : Bool) : (gD f).set i (.p (.bool b)) = gD (fun t => if t = i then b else f t) := by
  rw [gD_eq, gD_eq]
  apply List.ext_getElem?
  intro j
  simp only [List.getElem?_set, List.length_map, List.length_range, List.getElem?_map, List.getElem?_range]
  by_cases hij : i = j
  · subst hij
    by_cases hi : i < 50
    · simp [hi]
    · simp [hi]
  · simp only [if_neg hij]
    by_cases hj : j < 50
    · simp [hj, Ne.symm hij]
    · simp [hj]
theorem gD_get (f : Nat → Bool) {i : Nat} (hi : i < 50) : (gD f)[i]? = some (.p (.bool (f i))) := by
  rw [gD_eq]; simp [hi]
theorem gD_get' (f : Nat → Bool) {i n : Nat} (h : n = i) (hi : i < 50) : (gD f)[n]? = some (.p (.bool (f i))) := by subst h; exact gD_get f hi
theorem gD_len (f : Nat → Bool) : (gD f).length = 50 := rfl

def Ed.idx (e : Ed) : Nat := (if e.kind = 3 then 25 else 0) + e.fr.toNat * 5 + e.to.toNat
def ofG (l : List Ed) (kinds : List Int) (i : Nat) : Bool := l.any fun e => kinds.contains e.kind && e.idx == i
def Ed.good (e : Ed) : Prop := 0 ≤ e.fr ∧ e.fr < 5 ∧ 0 ≤ e.to ∧ e.to < 5

theorem ofG_snoc (l : List Ed) (e : Ed) (kinds : List Int) (i : Nat) : ofG (l ++ [e]) kinds i = (ofG l kinds i || (kinds.contains e.kind && e.idx == i)) := by
  simp [ofG, List.any_append]

theorem of_ac (l : List Ed) (kinds : List Int) (hg : ∀ e ∈ l, e.good) (hlen : l.length ≤ 1000000) (hk : kinds.length ≤ 1000000) :
    AC Try.prog 37 [.p (eds l), .p (ints kinds)] [] (.p (gEnc (ofG l kinds))) [] := by
  refine AC.body T_ok mx_ok Try.func37 rfl rfl rfl rfl rfl rfl ?_
  conv => whnf
  refine loop_fam (ι := Nat) (fun k => [(1, .p (ints kinds)), (4, .ref 0 0), (5, .ref 1 0), (8, .p (eds l)), (9, i64 l.length), (10, i64 k)]) (fun k => [(0, gBlk fun _ => false), (1, gBlk (ofG (l.take k) kinds))]) 2
    (fun k => k ≤ l.length) (fun k => l.length - k) 0 [] (Nat.zero_le _) ?_ ?_
  · refine ⟨rfl, by simp, ?_, ?_⟩
    · (repeat' (first | exact leSlots_nil | refine leSlots_cons ?_ rfl ?_)) <;> (first | exact DLeT.refl _ _ | (refine (DLe.p ?_).t _; (simp; done)) | skip)
    · (repeat' (first | exact leHeap_nil | refine leHeap_cons rfl ?_ rfl rfl ?_)) <;> (first | exact BLeT.refl _ | (refine BLeT.eq ?_; (simp; done)) | skip)
  · rintro k hk R hR
    conv => whnf
    refine condB_split (fun h => ?_) (fun h => ?_)
    · have h : k < l.length := by simpa using h
      obtain ⟨g1, g2, g3, g4⟩ := hg _ (List.getElem_mem h)
      conv => whnf
      refine getP_intro (l[k].enc) (by first | omega | (dsimp only; omega) | (simp only [List.length_map]; omega)) (by simpa using eds_get h) ?_
      conv => whnf
      refine (contains_ac kinds l[k].kind (by omega)).callP (by (repeat' (first | exact trivial | refine ⟨DLe.refl _, ?_⟩ | refine ⟨DLe.acc _ _, ?_⟩ | refine ⟨DLe.full _, ?_⟩ | refine ⟨DLe.nil, ?_⟩ | (refine ⟨DLe.p ?_, ?_⟩; focus (simp; done))))) ?_
      conv => whnf
      refine condB_split (fun h2 => ?_) (fun h2 => ?_)
      · have h2 : kinds.contains l[k].kind = false := by simpa using h2
        conv => whnf
        refine wrapP_intro (wrap64 (by first | omega | (dsimp only; omega) | (simp only [List.length_map]; omega)) (by first | omega | (dsimp only; omega) | (simp only [List.length_map]; omega))) ?_
        conv => whnf
        refine hR _ _ _ (k + 1) h (by omega) ⟨rfl, by simp, ?_, ?_⟩
        · (repeat' (first | exact leSlots_nil | refine leSlots_cons ?_ rfl ?_)) <;> (first | exact DLeT.refl _ _ | (refine (DLe.p ?_).t _; (simp; done)) | skip)
        · refine leHeap_cons rfl (BLeT.refl _) rfl rfl (leHeap_cons rfl (BLeT.eq ?_) rfl rfl leHeap_nil)
          congr 1
          funext i
          rw [List.take_succ_eq_append_getElem h, ofG_snoc, h2]; simp
      · have h2 : kinds.contains l[k].kind = true := by simpa using h2
        conv => whnf
        refine condB_split (fun h3 => ?_) (fun h3 => ?_)
        · have h3 : l[k].kind = 3 := by simpa using h3
          conv => whnf
          refine needP_intro (⟨by omega, by omega⟩) ?_
          conv => whnf
          refine needP_intro (⟨by omega, by omega⟩) ?_
          conv => whnf
          refine needP_intro (by rw [gD_len]; omega) ?_
          conv => whnf
          refine needP_intro (by kernel_rfl) ?_
          conv => whnf
          refine wrapP_intro (wrap64 (by first | omega | (dsimp only; omega) | (simp only [List.length_map]; omega)) (by first | omega | (dsimp only; omega) | (simp only [List.length_map]; omega))) ?_
          conv => whnf
          refine hR _ _ _ (k + 1) h (by omega) ⟨rfl, by simp, ?_, ?_⟩
          · (repeat' (first | exact leSlots_nil | refine leSlots_cons ?_ rfl ?_)) <;> (first | exact DLeT.refl _ _ | (refine (DLe.p ?_).t _; (simp; done)) | skip)
          · refine leHeap_cons rfl (BLeT.refl _) rfl rfl (leHeap_cons rfl (BLeT.eq ?_) rfl rfl leHeap_nil)
            refine (congrArg (Blk.cells 86) (gD_set _ _ _)).trans ?_
            refine congrArg (fun g => Blk.cells 86 (gD g)) ?_
            funext i
            rw [List.take_succ_eq_append_getElem h, ofG_snoc, h2]
            simp only [Ed.idx, h3, if_true, if_false, Bool.true_and]
            by_cases hi : i = 0 + 25 + l[k].fr.toNat * 5 + l[k].to.toNat * 1
            · rw [if_pos hi]
              have : (25 + l[k].fr.toNat * 5 + l[k].to.toNat == i) = true := by simp; omega
              rw [this]; simp
            · rw [if_neg hi]
              have : (25 + l[k].fr.toNat * 5 + l[k].to.toNat == i) = false := by simp; omega
              rw [this]; simp
        · have h3 : ¬ l[k].kind = 3 := by simpa using h3
          conv => whnf
          refine needP_intro (⟨by omega, by omega⟩) ?_
          conv => whnf
          refine needP_intro (⟨by omega, by omega⟩) ?_
          conv => whnf
          refine needP_intro (by rw [gD_len]; omega) ?_
          conv => whnf
          refine needP_intro (by kernel_rfl) ?_
          conv => whnf
          refine wrapP_intro (wrap64 (by first | omega | (dsimp only; omega) | (simp only [List.length_map]; omega)) (by first | omega | (dsimp only; omega) | (simp only [List.length_map]; omega))) ?_
          conv => whnf
          refine hR _ _ _ (k + 1) h (by omega) ⟨rfl, by simp, ?_, ?_⟩
          · (repeat' (first | exact leSlots_nil | refine leSlots_cons ?_ rfl ?_)) <;> (first | exact DLeT.refl _ _ | (refine (DLe.p ?_).t _; (simp; done)) | skip)
          · refine leHeap_cons rfl (BLeT.refl _) rfl rfl (leHeap_cons rfl (BLeT.eq ?_) rfl rfl leHeap_nil)
            refine (congrArg (Blk.cells 86) (gD_set _ _ _)).trans ?_
            refine congrArg (fun g => Blk.cells 86 (gD g)) ?_
            funext i
            rw [List.take_succ_eq_append_getElem h, ofG_snoc, h2]
            simp only [Ed.idx, h3, if_true, if_false, Bool.true_and]
            by_cases hi : i = 0 + 0 + l[k].fr.toNat * 5 + l[k].to.toNat * 1
            · rw [if_pos hi]
              have : (0 + l[k].fr.toNat * 5 + l[k].to.toNat == i) = true := by simp; omega
              rw [this]; simp
            · rw [if_neg hi]
              have : (0 + l[k].fr.toNat * 5 + l[k].to.toNat == i) = false := by simp; omega
              rw [this]; simp
    · have h : k = l.length := by simp at h; omega
      subst h
      conv => whnf
      refine DoneLe.p ?_
      rw [List.take_length]
      rfl

def dep (g : Nat → Bool) (i j : Int) : Bool := g (i.toNat * 5 + j.toNat) || g (25 + i.toNat * 5 + j.toNat)

theorem depends_ac (g : Nat → Bool) (i j : Int) (hi0 : 0 ≤ i) (hi : i < 5) (hj0 : 0 ≤ j) (hj : j < 5) : AC Try.prog 66 [.p (gEnc g), i64 i, i64 j] [] (.p (.bool (dep g i j))) [] := by
  refine AC.body T_ok mx_ok Try.func66 rfl rfl rfl rfl rfl rfl ?_
  conv => whnf
  refine needP_intro (⟨by omega, by omega⟩) ?_
  conv => whnf
  refine needP_intro (⟨by omega, by omega⟩) ?_
  conv => whnf
  refine getD_intro (.p (.bool (g (i.toNat * 5 + j.toNat)))) (by exact gD_get' g (by omega) (by omega)) ?_
  conv => whnf
  refine condB_split (fun h => ?_) (fun h => ?_)
  · conv => whnf
    refine DoneLe.p ?_
    simp [dep, h]
  · conv => whnf
    refine needP_intro (⟨by omega, by omega⟩) ?_
    conv => whnf
    refine needP_intro (⟨by omega, by omega⟩) ?_
    conv => whnf
    refine getD_intro (.p (.bool (g (25 + i.toNat * 5 + j.toNat)))) (by exact gD_get' g (by omega) (by omega)) ?_
    conv => whnf
    refine DoneLe.p ?_
    simp [dep, h]

def T1 : Ty := T.mut 22 1
theorem T1_ok : TyOk Try.prog T1 := T_ok.mut 22 1
theorem clone_ac (l : List Int) (h0 : l ≠ []) (hlen : l.length ≤ 1000000) : AC Try.prog 69 [.p (ints l)] [] (.acc 0 (l.map (.int .i64))) [.tok 3 1 l.length] := by
  refine AC.body T1_ok mx_ok Try.func69 rfl rfl rfl rfl rfl rfl ?_
  conv => whnf
  refine needP_intro (by simpa using h0) ?_
  conv => whnf
  refine needP_intro (fun x hx => by simp at hx) ?_
  conv => whnf
  refine needP_intro (⟨by simpa using h0, fun z hz => by simp at hz, fun z hz => by simp at hz; obtain ⟨a, _, rfl⟩ := hz; rfl, by simp; omega⟩) ?_
  conv => whnf
  refine DoneLe.mk [0] rfl rfl (ldHeap_cons rfl (BLe.eq ?_) rfl ldHeap_nil) (DLe.refl _) rfl rfl
  simp [Blk.ren]
end Qa.S43

set_option maxRecDepth 100000
namespace Qa.S43
open Go Go.Proofs

-- circles
def tryAll {σ : Type} (f : Int → σ → Bool × σ) : List Int → σ → Bool × σ
  | [], s => (true, s)
  | t :: ts, s => match f t s with
    | (true, s') => tryAll f ts s'
    | (false, s') => (false, s')
/-- the numbers from 5 - m to 4. -/
def up : Nat → List Int
  | 0 => []
  | m + 1 => (4 - (m : Int)) :: up m
def lastI (l : List Int) : Int := l.getLastD 0
def headI (l : List Int) : Int := l.headD 0
def ext {σ : Type} (G : Nat → Bool) (y : σ → List Int → Bool × σ) : Nat → List Int → σ → Bool × σ
  | 0, l, s => if dep G (lastI l) (headI l) then y s l else (true, s)
  | r + 1, l, s => tryAll (fun t s => if dep G (lastI l) t && !l.contains t then ext G y r (l ++ [t]) s else (true, s)) (up (4 - (headI l).toNat)) s

def five (l : List Int) : Prop := ∀ x ∈ l, 0 ≤ x ∧ x < 5
theorem lastI_get {l : List Int} (h : l ≠ []) : (l.map (Pd.int .i64))[l.length - 1]? = some (.int .i64 (lastI l)) := by
  have hp := List.length_pos_iff.2 h
  rw [ints_get (by omega)]
  congr 2
  rw [lastI, List.getLastD_eq_getLast?, List.getLast?_eq_getElem?, List.getElem?_eq_getElem (by omega)]
  rfl
theorem headI_get {l : List Int} (h : l ≠ []) : (l.map (Pd.int .i64))[0]? = some (.int .i64 (headI l)) := by
  cases l with
  | nil => exact absurd rfl h
  | cons x r => rfl
theorem lastI_in {l : List Int} (h : l ≠ []) (hf : five l) : 0 ≤ lastI l ∧ lastI l < 5 := by
  have : lastI l ∈ l := by
    rw [lastI, List.getLastD_eq_getLast?, List.getLast?_eq_some_getLast h]; exact List.getLast_mem h
  exact hf _ this
theorem headI_in {l : List Int} (h : l ≠ []) (hf : five l) : 0 ≤ headI l ∧ headI l < 5 := by
  cases l with
  | nil => exact absurd rfl h
  | cons x r => exact hf x (by simp)

theorem extendA_ac {σ : Type} (B1 B2 : σ → Blk) (hu1 : ∀ s, (B1 s).under (below 2) = true) (hu2 : ∀ s, (B2 s).under (below 2) = true) (hr1 : ∀ s f, (B1 s).ren f = B1 s) (hr2 : ∀ s f, (B2 s).ren f = B2 s)
    (g : Nat) (y : σ → List Int → Bool × σ) (hy : ∀ s l, l ≠ [] → l.length ≤ 5 → five l → AC Try.prog g ([.p (ints l)] ++ [D.ref 0 0]) [B1 s, B2 s] (.p (.bool (y s l).1)) [B1 (y s l).2, B2 (y s l).2]) (G : Nat → Bool) :
    ∀ (r : Nat) (l : List Int) (s : σ), l ≠ [] → five l → l.length + r ≤ 5 →
      AC Try.prog 84 [.p (gEnc G), .p (ints l), i64 (l.length + r : Nat), .fn g [] [D.ref 0 0]] [B1 s, B2 s] (.p (.bool (ext G y r l s).1)) [B1 (ext G y r l s).2, B2 (ext G y r l s).2] := by
  have hu13 : ∀ s, (B1 s).under (below 3) = true := fun s => Blk.under_le (below_le (by omega)) _ (hu1 s)
  have hu23 : ∀ s, (B2 s).under (below 3) = true := fun s => Blk.under_le (below_le (by omega)) _ (hu2 s)
  intro r
  induction r with
  | zero =>
    intro l s hl hf hlen
    have hp := List.length_pos_iff.2 hl
    have hin := lastI_in hl hf
    have hhd := headI_in hl hf
    refine AC.body T_ok mx_ok Try.func84 rfl rfl rfl rfl rfl rfl ?_
    conv => whnf
    refine wrapP_intro (wrap64 (by first | omega | (dsimp only; omega) | (simp only [List.length_map]; omega)) (by first | omega | (dsimp only; omega) | (simp only [List.length_map]; omega))) ?_
    conv => whnf
    refine getP_intro (.int .i64 (lastI l)) (by simp; omega) (by rw [show ((l.map (Pd.int .i64)).length - 1 : Int).toNat = l.length - 1 by simp]; exact lastI_get hl) ?_
    conv => whnf
    refine condB_split (fun h => ?_) (fun h => ?_)
    · refine getP_intro (.int .i64 (headI l)) (by first | omega | (dsimp only; omega) | (simp only [List.length_map]; omega)) (headI_get hl) ?_
      conv => whnf
      refine (depends_ac G (lastI l) (headI l) hin.1 hin.2 hhd.1 hhd.2).callP (by (repeat' (first | exact trivial | refine ⟨DLe.refl _, ?_⟩ | refine ⟨DLe.acc _ _, ?_⟩ | refine ⟨DLe.full _, ?_⟩ | refine ⟨DLe.nil, ?_⟩ | (refine ⟨DLe.p ?_, ?_⟩; focus (simp; done))))) ?_
      conv => whnf
      refine condB_split (fun h2 => ?_) (fun h2 => ?_)
      · have h2 : dep G (lastI l) (headI l) = false := by simpa using h2
        conv => whnf
        refine needP_intro (by kernel_rfl) ?_
        conv => whnf
        have e : ext G y 0 l s = (true, s) := by simp [ext, h2]
        rw [e]
        refine DoneLe.mk [0, 1] rfl rfl (ldHeap_cons rfl (BLe.eq (hr1 _ _).symm) (hu1 _) (ldHeap_cons rfl (BLe.eq (hr2 _ _).symm) (hu2 _) ldHeap_nil)) (DLe.p ?_) rfl rfl
        simp [h2]
      · have h2 : dep G (lastI l) (headI l) = true := by simpa using h2
        have e : ext G y 0 l s = y s l := by simp [ext, h2]
        rw [e]
        conv => whnf
        refine (hy s l hl (by omega) hf).call [0, 1] rfl ?_ (ldHeap_cons rfl (BLe.eq (hr1 _ _).symm) (hu1 _) (ldHeap_cons rfl (BLe.eq (hr2 _ _).symm) (hu2 _) ldHeap_nil)) ?_
        · repeat' (first | exact trivial | refine ⟨DLe.refl _, ?_⟩)
        conv => whnf
        refine needP_intro (by kernel_rfl) ?_
        conv => whnf
        refine DoneLe.mk [0, 1] rfl rfl (ldHeap_cons rfl (BLe.refl _) (hu1 _) (ldHeap_cons rfl (BLe.refl _) (hu2 _) ldHeap_nil)) (DLe.p ?_) rfl rfl
        simp [h2]
    · simp at h
  | succ r ih =>
    intro l s hl hf hlen
    have hp := List.length_pos_iff.2 hl
    have hin := lastI_in hl hf
    have hhd := headI_in hl hf
    refine AC.body T_ok mx_ok Try.func84 rfl rfl rfl rfl rfl rfl ?_
    conv => whnf
    refine wrapP_intro (wrap64 (by first | omega | (dsimp only; omega) | (simp only [List.length_map]; omega)) (by first | omega | (dsimp only; omega) | (simp only [List.length_map]; omega))) ?_
    conv => whnf
    refine getP_intro (.int .i64 (lastI l)) (by simp; omega) (by rw [show ((l.map (Pd.int .i64)).length - 1 : Int).toNat = l.length - 1 by simp]; exact lastI_get hl) ?_
    conv => whnf
    refine condB_split (fun h => ?_) (fun h => ?_)
    · exact absurd h (by simp; omega)
    · refine getP_intro (.int .i64 (headI l)) (by first | omega | (dsimp only; omega) | (simp only [List.length_map]; omega)) (headI_get hl) ?_
      conv => whnf
      refine wrapP_intro (wrap64 (by first | omega | (dsimp only; omega) | (simp only [List.length_map]; omega)) (by first | omega | (dsimp only; omega) | (simp only [List.length_map]; omega))) ?_
      conv => whnf
      refine loop_fam (ι := Nat × σ) (fun i => [(1, .p (ints l)), (2, i64 (l.length + (r + 1) : Nat)), (3, .fn g [] [D.ref 0 0]), (4, .ref 2 0), (9, i64 (lastI l)), (10, i64 (5 - (i.1 : Int)))]) (fun i => [(0, B1 i.2), (1, B2 i.2), (2, gBlk G)]) 3
        (fun i => i.1 ≤ 4 ∧ tryAll (fun t s => if dep G (lastI l) t && !l.contains t then ext G y r (l ++ [t]) s else (true, s)) (up i.1) i.2 = ext G y (r + 1) l s)
        (fun i => i.1) (4 - (headI l).toNat, s) [] ⟨by dsimp only; omega, rfl⟩ ⟨rfl, by simp, ?_, ?_⟩ ?_
      · refine leSlots_cons (DLeT.refl _ _) rfl (leSlots_cons (DLeT.refl _ _) rfl (leSlots_cons (DLeT.refl _ _) rfl (leSlots_cons (DLeT.refl _ _) rfl (leSlots_cons (DLeT.refl _ _) rfl (leSlots_cons ((DLe.p ?_).t _) rfl leSlots_nil)))))
        dsimp only
        congr 1
        omega
      · exact leHeap_cons rfl (BLeT.refl _) rfl (hu13 _) (leHeap_cons rfl (BLeT.refl _) rfl (hu23 _) (leHeap_cons rfl (BLeT.refl _) rfl rfl leHeap_nil))
      · rintro ⟨m, u⟩ ⟨hm, hu⟩ R hR
        dsimp only at hm hu
        conv => whnf
        refine condB_split (fun h1 => ?_) (fun h1 => ?_)
        · obtain ⟨m, rfl⟩ : ∃ k, m = k + 1 := by simp at h1; exact ⟨m - 1, by omega⟩
          have e5 : (5 - ((m + 1 : Nat) : Int)) = 4 - (m : Int) := by omega
          rw [e5]
          simp only [up, tryAll] at hu
          have back : ∀ (A' : Tmps) (H' : Heap) (nx' : Nat) (v : σ), (if dep G (lastI l) (4 - (m : Int)) && !l.contains (4 - (m : Int)) then ext G y r (l ++ [4 - (m : Int)]) u else (true, u)) = (true, v) →
              leSt 2 [] nx' A' H' [(1, .p (ints l)), (2, i64 (l.length + (r + 1) : Nat)), (3, .fn g [] [D.ref 0 0]), (4, .ref 2 0), (9, i64 (lastI l)), (10, i64 (4 - (m : Int) + 1))] [(0, B1 v), (1, B2 v), (2, gBlk G)] 3 → R A' H' nx' := fun A' H' nx' v hs hle => by
            refine hR A' H' nx' (m, v) ⟨by dsimp only; omega, ?_⟩ (by dsimp only; omega) ?_
            · rw [hs] at hu; exact hu
            · dsimp only
              rw [show 5 - (m : Int) = 4 - (m : Int) + 1 by omega]; exact hle
          conv => whnf
          refine (depends_ac G (lastI l) (4 - (m : Int)) hin.1 hin.2 (by omega) (by omega)).callP (by (repeat' (first | exact trivial | refine ⟨DLe.refl _, ?_⟩ | refine ⟨DLe.acc _ _, ?_⟩ | refine ⟨DLe.full _, ?_⟩ | refine ⟨DLe.nil, ?_⟩ | (refine ⟨DLe.p ?_, ?_⟩; focus (simp; done))))) ?_
          conv => whnf
          refine condB_split (fun h2 => ?_) (fun h2 => ?_)
          · conv => whnf
            refine (contains_ac l (4 - (m : Int)) (by omega)).callP (by (repeat' (first | exact trivial | refine ⟨DLe.refl _, ?_⟩ | refine ⟨DLe.acc _ _, ?_⟩ | refine ⟨DLe.full _, ?_⟩ | refine ⟨DLe.nil, ?_⟩ | (refine ⟨DLe.p ?_, ?_⟩; focus (simp; done))))) ?_
            conv => whnf
            refine condB_split (fun h3 => ?_) (fun h3 => ?_)
            · have h3 : l.contains (4 - (m : Int)) = false := by simpa using h3
              have hok : (dep G (lastI l) (4 - (m : Int)) && !l.contains (4 - (m : Int))) = true := by rw [h2, h3]; rfl
              conv => whnf
              refine (clone_ac l hl (by omega)).call [] rfl ⟨DLe.refl _, trivial⟩ ldHeap_nil ?_
              conv => whnf
              refine needP_intro (fun x hx => by simp at hx; subst hx; rfl) ?_
              conv => whnf
              refine needP_intro (⟨by simp, fun z hz => by simp at hz; rcases hz with ⟨a, _, rfl⟩ | rfl <;> rfl, by simp; omega⟩) ?_
              conv => whnf
              have hf2 : five (l ++ [4 - (m : Int)]) := fun x hx => by
                rcases List.mem_append.1 hx with hx | hx
                · exact hf x hx
                · simp at hx; subst hx; omega
              refine (ih (l ++ [4 - (m : Int)]) u (by simp) hf2 (by simp; omega)).call [0, 1] rfl ?_ (ldHeap_cons rfl (BLe.eq (hr1 _ _).symm) (hu1 _) (ldHeap_cons rfl (BLe.eq (hr2 _ _).symm) (hu2 _) ldHeap_nil)) ?_
              · refine ⟨DLe.refl _, (DLe.acc _ _).trans (DLe.p ?_), DLe.p ?_, DLe.refl _, trivial⟩
                · simp [ints]
                · simp; omega
              conv => whnf
              refine needP_intro (by kernel_rfl) ?_
              conv => whnf
              refine condB_split (fun h4 => ?_) (fun h4 => ?_)
              · have h4 : (ext G y r (l ++ [4 - (m : Int)]) u).1 = false := by simpa using h4
                rw [if_pos hok] at hu
                generalize hv : ext G y r (l ++ [4 - (m : Int)]) u = v at hu h4
                obtain ⟨b, v⟩ := v
                dsimp only at h4
                subst h4
                dsimp only at hu
                rw [← hu]
                conv => whnf
                refine DoneLe.mk [0, 1] rfl rfl (ldHeap_cons rfl (BLe.eq ((hr1 _ _).trans (hr1 _ _).symm)) (hu1 _) (ldHeap_cons rfl (BLe.eq ((hr2 _ _).trans (hr2 _ _).symm)) (hu2 _) ldHeap_nil)) (DLe.p rfl) rfl rfl
              · have h4 : (ext G y r (l ++ [4 - (m : Int)]) u).1 = true := by simpa using h4
                conv => whnf
                refine wrapP_intro (wrap64 (by first | omega | (dsimp only; omega) | (simp only [List.length_map]; omega)) (by first | omega | (dsimp only; omega) | (simp only [List.length_map]; omega))) ?_
                conv => whnf
                refine back _ _ _ (ext G y r (l ++ [4 - (m : Int)]) u).2 (by rw [if_pos hok, ← h4]) ?_
                refine ⟨rfl, by simp, ?_, ?_⟩
                · exact leSlots_cons (DLeT.refl _ _) rfl (leSlots_cons (DLeT.refl _ _) rfl (leSlots_cons (DLeT.refl _ _) rfl (leSlots_cons (DLeT.refl _ _) rfl (leSlots_cons (DLeT.refl _ _) rfl (leSlots_cons (DLeT.refl _ _) rfl leSlots_nil)))))
                · exact leHeap_cons rfl (BLeT.eq (hr1 _ _)) rfl (hu13 _) (leHeap_cons rfl (BLeT.eq (hr2 _ _)) rfl (hu23 _) (leHeap_cons rfl (BLeT.refl _) rfl rfl leHeap_nil))
            · have h3 : l.contains (4 - (m : Int)) = true := by simpa using h3
              have hok : ¬ (dep G (lastI l) (4 - (m : Int)) && !l.contains (4 - (m : Int))) = true := by rw [h3]; simp
              conv => whnf
              refine needP_intro (by kernel_rfl) ?_
              conv => whnf
              refine wrapP_intro (wrap64 (by first | omega | (dsimp only; omega) | (simp only [List.length_map]; omega)) (by first | omega | (dsimp only; omega) | (simp only [List.length_map]; omega))) ?_
              conv => whnf
              refine back _ _ _ u (by rw [if_neg hok]) ?_
              refine ⟨rfl, by simp, ?_, ?_⟩
              · exact leSlots_cons (DLeT.refl _ _) rfl (leSlots_cons (DLeT.refl _ _) rfl (leSlots_cons (DLeT.refl _ _) rfl (leSlots_cons (DLeT.refl _ _) rfl (leSlots_cons (DLeT.refl _ _) rfl (leSlots_cons (DLeT.refl _ _) rfl leSlots_nil)))))
              · exact leHeap_cons rfl (BLeT.refl _) rfl (hu13 _) (leHeap_cons rfl (BLeT.refl _) rfl (hu23 _) (leHeap_cons rfl (BLeT.refl _) rfl rfl leHeap_nil))
          · have hok : ¬ (dep G (lastI l) (4 - (m : Int)) && !l.contains (4 - (m : Int))) = true := by rw [h2]; simp
            conv => whnf
            refine needP_intro (by kernel_rfl) ?_
            conv => whnf
            refine wrapP_intro (wrap64 (by first | omega | (dsimp only; omega) | (simp only [List.length_map]; omega)) (by first | omega | (dsimp only; omega) | (simp only [List.length_map]; omega))) ?_
            conv => whnf
            refine back _ _ _ u (by rw [if_neg hok]) ?_
            refine ⟨rfl, by simp, ?_, ?_⟩
            · exact leSlots_cons (DLeT.refl _ _) rfl (leSlots_cons (DLeT.refl _ _) rfl (leSlots_cons (DLeT.refl _ _) rfl (leSlots_cons (DLeT.refl _ _) rfl (leSlots_cons (DLeT.refl _ _) rfl (leSlots_cons (DLeT.refl _ _) rfl leSlots_nil)))))
            · exact leHeap_cons rfl (BLeT.refl _) rfl (hu13 _) (leHeap_cons rfl (BLeT.refl _) rfl (hu23 _) (leHeap_cons rfl (BLeT.refl _) rfl rfl leHeap_nil))
        · have h1 : m = 0 := by simp at h1; omega
          subst h1
          simp only [up, tryAll] at hu
          rw [← hu]
          conv => whnf
          refine DoneLe.mk [0, 1] rfl rfl (ldHeap_cons rfl (BLe.eq (hr1 _ _).symm) (hu1 _) (ldHeap_cons rfl (BLe.eq (hr2 _ _).symm) (hu2 _) ldHeap_nil)) (DLe.p ?_) rfl rfl
          rfl
theorem extendB_ac {σ : Type} (B1 B2 : σ → Blk) (hu1 : ∀ s, (B1 s).under (below 2) = true) (hu2 : ∀ s, (B2 s).under (below 2) = true) (hr1 : ∀ s f, (B1 s).ren f = B1 s) (hr2 : ∀ s f, (B2 s).ren f = B2 s)
    (g : Nat) (y : σ → List Int → Bool × σ) (hy : ∀ s l, l ≠ [] → l.length ≤ 5 → five l → AC Try.prog g ([.p (ints l)] ++ [D.ref 0 0, D.ref 1 0]) [B1 s, B2 s] (.p (.bool (y s l).1)) [B1 (y s l).2, B2 (y s l).2]) (G : Nat → Bool) :
    ∀ (r : Nat) (l : List Int) (s : σ), l ≠ [] → five l → l.length + r ≤ 5 →
      AC Try.prog 84 [.p (gEnc G), .p (ints l), i64 (l.length + r : Nat), .fn g [] [D.ref 0 0, D.ref 1 0]] [B1 s, B2 s] (.p (.bool (ext G y r l s).1)) [B1 (ext G y r l s).2, B2 (ext G y r l s).2] := by
  have hu13 : ∀ s, (B1 s).under (below 3) = true := fun s => Blk.under_le (below_le (by omega)) _ (hu1 s)
  have hu23 : ∀ s, (B2 s).under (below 3) = true := fun s => Blk.under_le (below_le (by omega)) _ (hu2 s)
  intro r
  induction r with
  | zero =>
    intro l s hl hf hlen
    have hp := List.length_pos_iff.2 hl
    have hin := lastI_in hl hf
    have hhd := headI_in hl hf
    refine AC.body T_ok mx_ok Try.func84 rfl rfl rfl rfl rfl rfl ?_
    conv => whnf
    refine wrapP_intro (wrap64 (by first | omega | (dsimp only; omega) | (simp only [List.length_map]; omega)) (by first | omega | (dsimp only; omega) | (simp only [List.length_map]; omega))) ?_
    conv => whnf
    refine getP_intro (.int .i64 (lastI l)) (by simp; omega) (by rw [show ((l.map (Pd.int .i64)).length - 1 : Int).toNat = l.length - 1 by simp]; exact lastI_get hl) ?_
    conv => whnf
    refine condB_split (fun h => ?_) (fun h => ?_)
    · refine getP_intro (.int .i64 (headI l)) (by first | omega | (dsimp only; omega) | (simp only [List.length_map]; omega)) (headI_get hl) ?_
      conv => whnf
      refine (depends_ac G (lastI l) (headI l) hin.1 hin.2 hhd.1 hhd.2).callP (by (repeat' (first | exact trivial | refine ⟨DLe.refl _, ?_⟩ | refine ⟨DLe.acc _ _, ?_⟩ | refine ⟨DLe.full _, ?_⟩ | refine ⟨DLe.nil, ?_⟩ | (refine ⟨DLe.p ?_, ?_⟩; focus (simp; done))))) ?_
      conv => whnf
      refine condB_split (fun h2 => ?_) (fun h2 => ?_)
      · have h2 : dep G (lastI l) (headI l) = false := by simpa using h2
        conv => whnf
        refine needP_intro (by kernel_rfl) ?_
        conv => whnf
        have e : ext G y 0 l s = (true, s) := by simp [ext, h2]
        rw [e]
        refine DoneLe.mk [0, 1] rfl rfl (ldHeap_cons rfl (BLe.eq (hr1 _ _).symm) (hu1 _) (ldHeap_cons rfl (BLe.eq (hr2 _ _).symm) (hu2 _) ldHeap_nil)) (DLe.p ?_) rfl rfl
        simp [h2]
      · have h2 : dep G (lastI l) (headI l) = true := by simpa using h2
        have e : ext G y 0 l s = y s l := by simp [ext, h2]
        rw [e]
        conv => whnf
        refine (hy s l hl (by omega) hf).call [0, 1] rfl ?_ (ldHeap_cons rfl (BLe.eq (hr1 _ _).symm) (hu1 _) (ldHeap_cons rfl (BLe.eq (hr2 _ _).symm) (hu2 _) ldHeap_nil)) ?_
        · repeat' (first | exact trivial | refine ⟨DLe.refl _, ?_⟩)
        conv => whnf
        refine needP_intro (by kernel_rfl) ?_
        conv => whnf
        refine DoneLe.mk [0, 1] rfl rfl (ldHeap_cons rfl (BLe.refl _) (hu1 _) (ldHeap_cons rfl (BLe.refl _) (hu2 _) ldHeap_nil)) (DLe.p ?_) rfl rfl
        simp [h2]
    · simp at h
  | succ r ih =>
    intro l s hl hf hlen
    have hp := List.length_pos_iff.2 hl
    have hin := lastI_in hl hf
    have hhd := headI_in hl hf
    refine AC.body T_ok mx_ok Try.func84 rfl rfl rfl rfl rfl rfl ?_
    conv => whnf
    refine wrapP_intro (wrap64 (by first | omega | (dsimp only; omega) | (simp only [List.length_map]; omega)) (by first | omega | (dsimp only; omega) | (simp only [List.length_map]; omega))) ?_
    conv => whnf
    refine getP_intro (.int .i64 (lastI l)) (by simp; omega) (by rw [show ((l.map (Pd.int .i64)).length - 1 : Int).toNat = l.length - 1 by simp]; exact lastI_get hl) ?_
    conv => whnf
    refine condB_split (fun h => ?_) (fun h => ?_)
    · exact absurd h (by simp; omega)
    · refine getP_intro (.int .i64 (headI l)) (by first | omega | (dsimp only; omega) | (simp only [List.length_map]; omega)) (headI_get hl) ?_
      conv => whnf
      refine wrapP_intro (wrap64 (by first | omega | (dsimp only; omega) | (simp only [List.length_map]; omega)) (by first | omega | (dsimp only; omega) | (simp only [List.length_map]; omega))) ?_
      conv => whnf
      refine loop_fam (ι := Nat × σ) (fun i => [(1, .p (ints l)), (2, i64 (l.length + (r + 1) : Nat)), (3, .fn g [] [D.ref 0 0, D.ref 1 0]), (4, .ref 2 0), (9, i64 (lastI l)), (10, i64 (5 - (i.1 : Int)))]) (fun i => [(0, B1 i.2), (1, B2 i.2), (2, gBlk G)]) 3
        (fun i => i.1 ≤ 4 ∧ tryAll (fun t s => if dep G (lastI l) t && !l.contains t then ext G y r (l ++ [t]) s else (true, s)) (up i.1) i.2 = ext G y (r + 1) l s)
        (fun i => i.1) (4 - (headI l).toNat, s) [] ⟨by dsimp only; omega, rfl⟩ ⟨rfl, by simp, ?_, ?_⟩ ?_
      · refine leSlots_cons (DLeT.refl _ _) rfl (leSlots_cons (DLeT.refl _ _) rfl (leSlots_cons (DLeT.refl _ _) rfl (leSlots_cons (DLeT.refl _ _) rfl (leSlots_cons (DLeT.refl _ _) rfl (leSlots_cons ((DLe.p ?_).t _) rfl leSlots_nil)))))
        dsimp only
        congr 1
        omega
      · exact leHeap_cons rfl (BLeT.refl _) rfl (hu13 _) (leHeap_cons rfl (BLeT.refl _) rfl (hu23 _) (leHeap_cons rfl (BLeT.refl _) rfl rfl leHeap_nil))
      · rintro ⟨m, u⟩ ⟨hm, hu⟩ R hR
        dsimp only at hm hu
        conv => whnf
        refine condB_split (fun h1 => ?_) (fun h1 => ?_)
        · obtain ⟨m, rfl⟩ : ∃ k, m = k + 1 := by simp at h1; exact ⟨m - 1, by omega⟩
          have e5 : (5 - ((m + 1 : Nat) : Int)) = 4 - (m : Int) := by omega
          rw [e5]
          simp only [up, tryAll] at hu
          have back : ∀ (A' : Tmps) (H' : Heap) (nx' : Nat) (v : σ), (if dep G (lastI l) (4 - (m : Int)) && !l.contains (4 - (m : Int)) then ext G y r (l ++ [4 - (m : Int)]) u else (true, u)) = (true, v) →
              leSt 2 [] nx' A' H' [(1, .p (ints l)), (2, i64 (l.length + (r + 1) : Nat)), (3, .fn g [] [D.ref 0 0, D.ref 1 0]), (4, .ref 2 0), (9, i64 (lastI l)), (10, i64 (4 - (m : Int) + 1))] [(0, B1 v), (1, B2 v), (2, gBlk G)] 3 → R A' H' nx' := fun A' H' nx' v hs hle => by
            refine hR A' H' nx' (m, v) ⟨by dsimp only; omega, ?_⟩ (by dsimp only; omega) ?_
            · rw [hs] at hu; exact hu
            · dsimp only
              rw [show 5 - (m : Int) = 4 - (m : Int) + 1 by omega]; exact hle
          conv => whnf
          refine (depends_ac G (lastI l) (4 - (m : Int)) hin.1 hin.2 (by omega) (by omega)).callP (by (repeat' (first | exact trivial | refine ⟨DLe.refl _, ?_⟩ | refine ⟨DLe.acc _ _, ?_⟩ | refine ⟨DLe.full _, ?_⟩ | refine ⟨DLe.nil, ?_⟩ | (refine ⟨DLe.p ?_, ?_⟩; focus (simp; done))))) ?_
          conv => whnf
          refine condB_split (fun h2 => ?_) (fun h2 => ?_)
          · conv => whnf
            refine (contains_ac l (4 - (m : Int)) (by omega)).callP (by (repeat' (first | exact trivial | refine ⟨DLe.refl _, ?_⟩ | refine ⟨DLe.acc _ _, ?_⟩ | refine ⟨DLe.full _, ?_⟩ | refine ⟨DLe.nil, ?_⟩ | (refine ⟨DLe.p ?_, ?_⟩; focus (simp; done))))) ?_
            conv => whnf
            refine condB_split (fun h3 => ?_) (fun h3 => ?_)
            · have h3 : l.contains (4 - (m : Int)) = false := by simpa using h3
              have hok : (dep G (lastI l) (4 - (m : Int)) && !l.contains (4 - (m : Int))) = true := by rw [h2, h3]; rfl
              conv => whnf
              refine (clone_ac l hl (by omega)).call [] rfl ⟨DLe.refl _, trivial⟩ ldHeap_nil ?_
              conv => whnf
              refine needP_intro (fun x hx => by simp at hx; subst hx; rfl) ?_
              conv => whnf
              refine needP_intro (⟨by simp, fun z hz => by simp at hz; rcases hz with ⟨a, _, rfl⟩ | rfl <;> rfl, by simp; omega⟩) ?_
              conv => whnf
              have hf2 : five (l ++ [4 - (m : Int)]) := fun x hx => by
                rcases List.mem_append.1 hx with hx | hx
                · exact hf x hx
                · simp at hx; subst hx; omega
              refine (ih (l ++ [4 - (m : Int)]) u (by simp) hf2 (by simp; omega)).call [0, 1] rfl ?_ (ldHeap_cons rfl (BLe.eq (hr1 _ _).symm) (hu1 _) (ldHeap_cons rfl (BLe.eq (hr2 _ _).symm) (hu2 _) ldHeap_nil)) ?_
              · refine ⟨DLe.refl _, (DLe.acc _ _).trans (DLe.p ?_), DLe.p ?_, DLe.refl _, trivial⟩
                · simp [ints]
                · simp; omega
              conv => whnf
              refine needP_intro (by kernel_rfl) ?_
              conv => whnf
              refine condB_split (fun h4 => ?_) (fun h4 => ?_)
              · have h4 : (ext G y r (l ++ [4 - (m : Int)]) u).1 = false := by simpa using h4
                rw [if_pos hok] at hu
                generalize hv : ext G y r (l ++ [4 - (m : Int)]) u = v at hu h4
                obtain ⟨b, v⟩ := v
                dsimp only at h4
                subst h4
                dsimp only at hu
                rw [← hu]
                conv => whnf
                refine DoneLe.mk [0, 1] rfl rfl (ldHeap_cons rfl (BLe.eq ((hr1 _ _).trans (hr1 _ _).symm)) (hu1 _) (ldHeap_cons rfl (BLe.eq ((hr2 _ _).trans (hr2 _ _).symm)) (hu2 _) ldHeap_nil)) (DLe.p rfl) rfl rfl
              · have h4 : (ext G y r (l ++ [4 - (m : Int)]) u).1 = true := by simpa using h4
                conv => whnf
                refine wrapP_intro (wrap64 (by first | omega | (dsimp only; omega) | (simp only [List.length_map]; omega)) (by first | omega | (dsimp only; omega) | (simp only [List.length_map]; omega))) ?_
                conv => whnf
                refine back _ _ _ (ext G y r (l ++ [4 - (m : Int)]) u).2 (by rw [if_pos hok, ← h4]) ?_
                refine ⟨rfl, by simp, ?_, ?_⟩
                · exact leSlots_cons (DLeT.refl _ _) rfl (leSlots_cons (DLeT.refl _ _) rfl (leSlots_cons (DLeT.refl _ _) rfl (leSlots_cons (DLeT.refl _ _) rfl (leSlots_cons (DLeT.refl _ _) rfl (leSlots_cons (DLeT.refl _ _) rfl leSlots_nil)))))
                · exact leHeap_cons rfl (BLeT.eq (hr1 _ _)) rfl (hu13 _) (leHeap_cons rfl (BLeT.eq (hr2 _ _)) rfl (hu23 _) (leHeap_cons rfl (BLeT.refl _) rfl rfl leHeap_nil))
            · have h3 : l.contains (4 - (m : Int)) = true := by simpa using h3
              have hok : ¬ (dep G (lastI l) (4 - (m : Int)) && !l.contains (4 - (m : Int))) = true := by rw [h3]; simp
              conv => whnf
              refine needP_intro (by kernel_rfl) ?_
              conv => whnf
              refine wrapP_intro (wrap64 (by first | omega | (dsimp only; omega) | (simp only [List.length_map]; omega)) (by first | omega | (dsimp only; omega) | (simp only [List.length_map]; omega))) ?_
              conv => whnf
              refine back _ _ _ u (by rw [if_neg hok]) ?_
              refine ⟨rfl, by simp, ?_, ?_⟩
              · exact leSlots_cons (DLeT.refl _ _) rfl (leSlots_cons (DLeT.refl _ _) rfl (leSlots_cons (DLeT.refl _ _) rfl (leSlots_cons (DLeT.refl _ _) rfl (leSlots_cons (DLeT.refl _ _) rfl (leSlots_cons (DLeT.refl _ _) rfl leSlots_nil)))))
              · exact leHeap_cons rfl (BLeT.refl _) rfl (hu13 _) (leHeap_cons rfl (BLeT.refl _) rfl (hu23 _) (leHeap_cons rfl (BLeT.refl _) rfl rfl leHeap_nil))
          · have hok : ¬ (dep G (lastI l) (4 - (m : Int)) && !l.contains (4 - (m : Int))) = true := by rw [h2]; simp
            conv => whnf
            refine needP_intro (by kernel_rfl) ?_
            conv => whnf
            refine wrapP_intro (wrap64 (by first | omega | (dsimp only; omega) | (simp only [List.length_map]; omega)) (by first | omega | (dsimp only; omega) | (simp only [List.length_map]; omega))) ?_
            conv => whnf
            refine back _ _ _ u (by rw [if_neg hok]) ?_
            refine ⟨rfl, by simp, ?_, ?_⟩
            · exact leSlots_cons (DLeT.refl _ _) rfl (leSlots_cons (DLeT.refl _ _) rfl (leSlots_cons (DLeT.refl _ _) rfl (leSlots_cons (DLeT.refl _ _) rfl (leSlots_cons (DLeT.refl _ _) rfl (leSlots_cons (DLeT.refl _ _) rfl leSlots_nil)))))
            · exact leHeap_cons rfl (BLeT.refl _) rfl (hu13 _) (leHeap_cons rfl (BLeT.refl _) rfl (hu23 _) (leHeap_cons rfl (BLeT.refl _) rfl rfl leHeap_nil))
        · have h1 : m = 0 := by simp at h1; omega
          subst h1
          simp only [up, tryAll] at hu
          rw [← hu]
          conv => whnf
          refine DoneLe.mk [0, 1] rfl rfl (ldHeap_cons rfl (BLe.eq (hr1 _ _).symm) (hu1 _) (ldHeap_cons rfl (BLe.eq (hr2 _ _).symm) (hu2 _) ldHeap_nil)) (DLe.p ?_) rfl rfl
          rfl
end Qa.S43

set_option maxRecDepth 100000
namespace Qa.S43
open Go Go.Proofs

def circ {σ : Type} (G : Nat → Bool) (y : σ → List Int → Bool × σ) : List (Nat × Int) → σ → σ
  | [], s => s
  | (n, a) :: r, s => match ext G y (n - 1) [a] s with
    | (true, s') => circ G y r s'
    | (false, s') => s'
/-- lengths from 6 - j to 5, each with all first ones. -/
def outer : Nat → List (Nat × Int)
  | 0 => []
  | j + 1 => (up 5).map (fun a => (5 - j, a)) ++ outer j

theorem circlesA_ac {σ : Type} (B1 B2 : σ → Blk) (hu1 : ∀ s, (B1 s).under (below 2) = true) (hu2 : ∀ s, (B2 s).under (below 2) = true) (hr1 : ∀ s f, (B1 s).ren f = B1 s) (hr2 : ∀ s f, (B2 s).ren f = B2 s)
    (g : Nat) (y : σ → List Int → Bool × σ) (hy : ∀ s l, l ≠ [] → l.length ≤ 5 → five l → AC Try.prog g ([.p (ints l)] ++ [D.ref 0 0]) [B1 s, B2 s] (.p (.bool (y s l).1)) [B1 (y s l).2, B2 (y s l).2]) (G : Nat → Bool) (s0 : σ) :
    AC Try.prog 67 [.p (gEnc G), .fn g [] [D.ref 0 0]] [B1 s0, B2 s0] (.tup []) [B1 (circ G y (outer 4) s0), B2 (circ G y (outer 4) s0)] := by
  have hu13 : ∀ s, (B1 s).under (below 3) = true := fun s => Blk.under_le (below_le (by omega)) _ (hu1 s)
  have hu23 : ∀ s, (B2 s).under (below 3) = true := fun s => Blk.under_le (below_le (by omega)) _ (hu2 s)
  refine AC.body T_ok mx_ok Try.func67 rfl rfl rfl rfl rfl rfl ?_
  conv => whnf
  refine loop_fam (ι := Nat × σ) (fun i => [(1, .fn g [] [D.ref 0 0]), (2, .ref 2 0), (4, i64 (6 - (i.1 : Int)))]) (fun i => [(0, B1 i.2), (1, B2 i.2), (2, gBlk G)]) 3
    (fun i => i.1 ≤ 4 ∧ circ G y (outer i.1) i.2 = circ G y (outer 4) s0) (fun i => i.1) (4, s0) [] ⟨Nat.le_refl _, rfl⟩ ⟨rfl, by simp, ?_, ?_⟩ ?_
  · (repeat' (first | exact leSlots_nil | refine leSlots_cons ?_ rfl ?_)) <;> (first | exact DLeT.refl _ _ | (refine (DLe.p ?_).t _; (simp; done)) | skip)
  · exact leHeap_cons rfl (BLeT.refl _) rfl (hu13 _) (leHeap_cons rfl (BLeT.refl _) rfl (hu23 _) (leHeap_cons rfl (BLeT.refl _) rfl rfl leHeap_nil))
  · rintro ⟨j, u⟩ ⟨hj, hu⟩ R hR
    dsimp only at hj hu
    conv => whnf
    refine condB_split (fun h1 => ?_) (fun h1 => ?_)
    · obtain ⟨j, rfl⟩ : ∃ k, j = k + 1 := by simp at h1; exact ⟨j - 1, by omega⟩
      conv => whnf
      refine loop_fam (ι := Nat × σ) (fun i => [(1, .fn g [] [D.ref 0 0]), (2, .ref 2 0), (4, i64 (5 - (j : Int))), (10, i64 (5 - (i.1 : Int)))]) (fun i => [(0, B1 i.2), (1, B2 i.2), (2, gBlk G)]) 3
        (fun i => i.1 ≤ 5 ∧ circ G y ((up i.1).map (fun a => (5 - j, a)) ++ outer j) i.2 = circ G y (outer 4) s0) (fun i => i.1) (5, u) [] ⟨Nat.le_refl _, hu⟩ ⟨rfl, by simp, ?_, ?_⟩ ?_
      · refine leSlots_cons (DLeT.refl _ _) rfl (leSlots_cons (DLeT.refl _ _) rfl (leSlots_cons ((DLe.p ?_).t _) rfl (leSlots_cons (DLeT.refl _ _) rfl leSlots_nil)))
        dsimp only
        congr 1
        omega
      · exact leHeap_cons rfl (BLeT.refl _) rfl (hu13 _) (leHeap_cons rfl (BLeT.refl _) rfl (hu23 _) (leHeap_cons rfl (BLeT.refl _) rfl rfl leHeap_nil))
      · rintro ⟨m, v⟩ ⟨hm, hv⟩ R2 hR2
        dsimp only at hm hv
        conv => whnf
        refine condB_split (fun h2 => ?_) (fun h2 => ?_)
        · obtain ⟨m, rfl⟩ : ∃ k, m = k + 1 := by simp at h2; exact ⟨m - 1, by omega⟩
          have e5 : (5 - ((m + 1 : Nat) : Int)) = 4 - (m : Int) := by omega
          rw [e5]
          simp only [up, List.map_cons, List.cons_append, circ] at hv
          conv => whnf
          refine needP_intro (fun x hx => by simp at hx; subst hx; rfl) ?_
          conv => whnf
          have hf2 : five [4 - (m : Int)] := fun x hx => by simp at hx; subst hx; omega
          refine (extendA_ac B1 B2 hu1 hu2 hr1 hr2 g y hy G (5 - j - 1) [4 - (m : Int)] v (by simp) hf2 (by simp; omega)).call [0, 1] rfl ?_ (ldHeap_cons rfl (BLe.eq (hr1 _ _).symm) (hu1 _) (ldHeap_cons rfl (BLe.eq (hr2 _ _).symm) (hu2 _) ldHeap_nil)) ?_
          · refine ⟨DLe.refl _, (DLe.full _).trans (DLe.p rfl), DLe.p ?_, DLe.refl _, trivial⟩
            simp; omega
          conv => whnf
          generalize hw : ext G y (5 - j - 1) [4 - (m : Int)] v = w at hv
          obtain ⟨b, w⟩ := w
          cases b with
          | false =>
            dsimp only at hv
            rw [← hv]
            conv => whnf
            refine DoneLe.mk [0, 1] rfl rfl (ldHeap_cons rfl (BLe.eq ((hr1 _ _).trans (hr1 _ _).symm)) (hu1 _) (ldHeap_cons rfl (BLe.eq ((hr2 _ _).trans (hr2 _ _).symm)) (hu2 _) ldHeap_nil)) (DLe.refl _) rfl rfl
          | true =>
            dsimp only at hv
            conv => whnf
            refine wrapP_intro (wrap64 (by first | omega | (dsimp only; omega) | (simp only [List.length_map]; omega)) (by first | omega | (dsimp only; omega) | (simp only [List.length_map]; omega))) ?_
            conv => whnf
            refine hR2 _ _ _ (m, w) ⟨by dsimp only; omega, hv⟩ (by dsimp only; omega) ⟨rfl, by simp, ?_, ?_⟩
            · refine leSlots_cons (DLeT.refl _ _) rfl (leSlots_cons (DLeT.refl _ _) rfl (leSlots_cons (DLeT.refl _ _) rfl (leSlots_cons ((DLe.p ?_).t _) rfl leSlots_nil)))
              dsimp only
              congr 1
              omega
            · exact leHeap_cons rfl (BLeT.eq (hr1 _ _)) rfl (hu13 _) (leHeap_cons rfl (BLeT.eq (hr2 _ _)) rfl (hu23 _) (leHeap_cons rfl (BLeT.refl _) rfl rfl leHeap_nil))
        · have h2 : m = 0 := by simp at h2; omega
          subst h2
          simp only [up, List.map_nil, List.nil_append] at hv
          conv => whnf
          refine wrapP_intro (wrap64 (by first | omega | (dsimp only; omega) | (simp only [List.length_map]; omega)) (by first | omega | (dsimp only; omega) | (simp only [List.length_map]; omega))) ?_
          conv => whnf
          refine hR _ _ _ (j, v) ⟨by dsimp only; omega, hv⟩ (by dsimp only; omega) ⟨rfl, by simp, ?_, ?_⟩
          · refine leSlots_cons (DLeT.refl _ _) rfl (leSlots_cons (DLeT.refl _ _) rfl (leSlots_cons ((DLe.p ?_).t _) rfl leSlots_nil))
            dsimp only
            congr 1
            omega
          · exact leHeap_cons rfl (BLeT.refl _) rfl (hu13 _) (leHeap_cons rfl (BLeT.refl _) rfl (hu23 _) (leHeap_cons rfl (BLeT.refl _) rfl rfl leHeap_nil))
    · have h1 : j = 0 := by simp at h1; omega
      subst h1
      change u = circ G y (outer 4) s0 at hu
      rw [← hu]
      conv => whnf
      refine DoneLe.mk [0, 1] rfl rfl (ldHeap_cons rfl (BLe.eq (hr1 _ _).symm) (hu1 _) (ldHeap_cons rfl (BLe.eq (hr2 _ _).symm) (hu2 _) ldHeap_nil)) (DLe.refl _) rfl rfl
theorem circlesB_ac {σ : Type} (B1 B2 : σ → Blk) (hu1 : ∀ s, (B1 s).under (below 2) = true) (hu2 : ∀ s, (B2 s).under (below 2) = true) (hr1 : ∀ s f, (B1 s).ren f = B1 s) (hr2 : ∀ s f, (B2 s).ren f = B2 s)
    (g : Nat) (y : σ → List Int → Bool × σ) (hy : ∀ s l, l ≠ [] → l.length ≤ 5 → five l → AC Try.prog g ([.p (ints l)] ++ [D.ref 0 0, D.ref 1 0]) [B1 s, B2 s] (.p (.bool (y s l).1)) [B1 (y s l).2, B2 (y s l).2]) (G : Nat → Bool) (s0 : σ) :
    AC Try.prog 67 [.p (gEnc G), .fn g [] [D.ref 0 0, D.ref 1 0]] [B1 s0, B2 s0] (.tup []) [B1 (circ G y (outer 4) s0), B2 (circ G y (outer 4) s0)] := by
  have hu13 : ∀ s, (B1 s).under (below 3) = true := fun s => Blk.under_le (below_le (by omega)) _ (hu1 s)
  have hu23 : ∀ s, (B2 s).under (below 3) = true := fun s => Blk.under_le (below_le (by omega)) _ (hu2 s)
  refine AC.body T_ok mx_ok Try.func67 rfl rfl rfl rfl rfl rfl ?_
  conv => whnf
  refine loop_fam (ι := Nat × σ) (fun i => [(1, .fn g [] [D.ref 0 0, D.ref 1 0]), (2, .ref 2 0), (4, i64 (6 - (i.1 : Int)))]) (fun i => [(0, B1 i.2), (1, B2 i.2), (2, gBlk G)]) 3
    (fun i => i.1 ≤ 4 ∧ circ G y (outer i.1) i.2 = circ G y (outer 4) s0) (fun i => i.1) (4, s0) [] ⟨Nat.le_refl _, rfl⟩ ⟨rfl, by simp, ?_, ?_⟩ ?_
  · (repeat' (first | exact leSlots_nil | refine leSlots_cons ?_ rfl ?_)) <;> (first | exact DLeT.refl _ _ | (refine (DLe.p ?_).t _; (simp; done)) | skip)
  · exact leHeap_cons rfl (BLeT.refl _) rfl (hu13 _) (leHeap_cons rfl (BLeT.refl _) rfl (hu23 _) (leHeap_cons rfl (BLeT.refl _) rfl rfl leHeap_nil))
  · rintro ⟨j, u⟩ ⟨hj, hu⟩ R hR
    dsimp only at hj hu
    conv => whnf
    refine condB_split (fun h1 => ?_) (fun h1 => ?_)
    · obtain ⟨j, rfl⟩ : ∃ k, j = k + 1 := by simp at h1; exact ⟨j - 1, by omega⟩
      conv => whnf
      refine loop_fam (ι := Nat × σ) (fun i => [(1, .fn g [] [D.ref 0 0, D.ref 1 0]), (2, .ref 2 0), (4, i64 (5 - (j : Int))), (10, i64 (5 - (i.1 : Int)))]) (fun i => [(0, B1 i.2), (1, B2 i.2), (2, gBlk G)]) 3
        (fun i => i.1 ≤ 5 ∧ circ G y ((up i.1).map (fun a => (5 - j, a)) ++ outer j) i.2 = circ G y (outer 4) s0) (fun i => i.1) (5, u) [] ⟨Nat.le_refl _, hu⟩ ⟨rfl, by simp, ?_, ?_⟩ ?_
      · refine leSlots_cons (DLeT.refl _ _) rfl (leSlots_cons (DLeT.refl _ _) rfl (leSlots_cons ((DLe.p ?_).t _) rfl (leSlots_cons (DLeT.refl _ _) rfl leSlots_nil)))
        dsimp only
        congr 1
        omega
      · exact leHeap_cons rfl (BLeT.refl _) rfl (hu13 _) (leHeap_cons rfl (BLeT.refl _) rfl (hu23 _) (leHeap_cons rfl (BLeT.refl _) rfl rfl leHeap_nil))
      · rintro ⟨m, v⟩ ⟨hm, hv⟩ R2 hR2
        dsimp only at hm hv
        conv => whnf
        refine condB_split (fun h2 => ?_) (fun h2 => ?_)
        · obtain ⟨m, rfl⟩ : ∃ k, m = k + 1 := by simp at h2; exact ⟨m - 1, by omega⟩
          have e5 : (5 - ((m + 1 : Nat) : Int)) = 4 - (m : Int) := by omega
          rw [e5]
          simp only [up, List.map_cons, List.cons_append, circ] at hv
          conv => whnf
          refine needP_intro (fun x hx => by simp at hx; subst hx; rfl) ?_
          conv => whnf
          have hf2 : five [4 - (m : Int)] := fun x hx => by simp at hx; subst hx; omega
          refine (extendB_ac B1 B2 hu1 hu2 hr1 hr2 g y hy G (5 - j - 1) [4 - (m : Int)] v (by simp) hf2 (by simp; omega)).call [0, 1] rfl ?_ (ldHeap_cons rfl (BLe.eq (hr1 _ _).symm) (hu1 _) (ldHeap_cons rfl (BLe.eq (hr2 _ _).symm) (hu2 _) ldHeap_nil)) ?_
          · refine ⟨DLe.refl _, (DLe.full _).trans (DLe.p rfl), DLe.p ?_, DLe.refl _, trivial⟩
            simp; omega
          conv => whnf
          generalize hw : ext G y (5 - j - 1) [4 - (m : Int)] v = w at hv
          obtain ⟨b, w⟩ := w
          cases b with
          | false =>
            dsimp only at hv
            rw [← hv]
            conv => whnf
            refine DoneLe.mk [0, 1] rfl rfl (ldHeap_cons rfl (BLe.eq ((hr1 _ _).trans (hr1 _ _).symm)) (hu1 _) (ldHeap_cons rfl (BLe.eq ((hr2 _ _).trans (hr2 _ _).symm)) (hu2 _) ldHeap_nil)) (DLe.refl _) rfl rfl
          | true =>
            dsimp only at hv
            conv => whnf
            refine wrapP_intro (wrap64 (by first | omega | (dsimp only; omega) | (simp only [List.length_map]; omega)) (by first | omega | (dsimp only; omega) | (simp only [List.length_map]; omega))) ?_
            conv => whnf
            refine hR2 _ _ _ (m, w) ⟨by dsimp only; omega, hv⟩ (by dsimp only; omega) ⟨rfl, by simp, ?_, ?_⟩
            · refine leSlots_cons (DLeT.refl _ _) rfl (leSlots_cons (DLeT.refl _ _) rfl (leSlots_cons (DLeT.refl _ _) rfl (leSlots_cons ((DLe.p ?_).t _) rfl leSlots_nil)))
              dsimp only
              congr 1
              omega
            · exact leHeap_cons rfl (BLeT.eq (hr1 _ _)) rfl (hu13 _) (leHeap_cons rfl (BLeT.eq (hr2 _ _)) rfl (hu23 _) (leHeap_cons rfl (BLeT.refl _) rfl rfl leHeap_nil))
        · have h2 : m = 0 := by simp at h2; omega
          subst h2
          simp only [up, List.map_nil, List.nil_append] at hv
          conv => whnf
          refine wrapP_intro (wrap64 (by first | omega | (dsimp only; omega) | (simp only [List.length_map]; omega)) (by first | omega | (dsimp only; omega) | (simp only [List.length_map]; omega))) ?_
          conv => whnf
          refine hR _ _ _ (j, v) ⟨by dsimp only; omega, hv⟩ (by dsimp only; omega) ⟨rfl, by simp, ?_, ?_⟩
          · refine leSlots_cons (DLeT.refl _ _) rfl (leSlots_cons (DLeT.refl _ _) rfl (leSlots_cons ((DLe.p ?_).t _) rfl leSlots_nil))
            dsimp only
            congr 1
            omega
          · exact leHeap_cons rfl (BLeT.refl _) rfl (hu13 _) (leHeap_cons rfl (BLeT.refl _) rfl (hu23 _) (leHeap_cons rfl (BLeT.refl _) rfl rfl leHeap_nil))
    · have h1 : j = 0 := by simp at h1; omega
      subst h1
      change u = circ G y (outer 4) s0 at hu
      rw [← hu]
      conv => whnf
      refine DoneLe.mk [0, 1] rfl rfl (ldHeap_cons rfl (BLe.eq (hr1 _ _).symm) (hu1 _) (ldHeap_cons rfl (BLe.eq (hr2 _ _).symm) (hu2 _) ldHeap_nil)) (DLe.refl _) rfl rfl

-- the first circle
def outB (s : Option (List Int)) : Blk := .cells 22 [match s with | none => .nilsl | some l => .p (ints l)]
def yC (_s : Option (List Int)) (l : List Int) : Bool × Option (List Int) := (false, some l)
theorem circle1_ac (B : Blk) (hB : B.under (below 2) = true) (hr : ∀ f, B.ren f = B) (s : Option (List Int)) (l : List Int) (h0 : l ≠ []) (hlen : l.length ≤ 5) :
    AC Try.prog 68 ([.p (ints l)] ++ [.ref 0 0]) [outB s, B] (.p (.bool (yC s l).1)) [outB (yC s l).2, B] := by
  cases s with
  | none =>
    refine AC.body T_ok mx_ok Try.func68 rfl rfl rfl rfl rfl rfl ?_
    conv => whnf
    refine (clone_ac l h0 (by omega)).call [] rfl ⟨DLe.refl _, trivial⟩ ldHeap_nil ?_
    conv => whnf
    refine DoneLe.mk [0, 1] rfl rfl (ldHeap_cons rfl (BLe.cells rfl ⟨DLe.acc _ _, trivial⟩) rfl (ldHeap_cons rfl (BLe.eq (hr _).symm) hB ldHeap_nil)) (DLe.p rfl) rfl rfl
  | some u =>
    refine AC.body T_ok mx_ok Try.func68 rfl rfl rfl rfl rfl rfl ?_
    conv => whnf
    refine (clone_ac l h0 (by omega)).call [] rfl ⟨DLe.refl _, trivial⟩ ldHeap_nil ?_
    conv => whnf
    refine DoneLe.mk [0, 1] rfl rfl (ldHeap_cons rfl (BLe.cells rfl ⟨DLe.acc _ _, trivial⟩) rfl (ldHeap_cons rfl (BLe.eq (hr _).symm) hB ldHeap_nil)) (DLe.p rfl) rfl rfl

theorem outB_under (s : Option (List Int)) : (outB s).under (below 2) = true := by cases s <;> rfl
theorem outB_ren (s : Option (List Int)) (f : Nat → Nat) : (outB s).ren f = outB s := by cases s <;> rfl

def circleL (G : Nat → Bool) : Option (List Int) := circ G yC (outer 4) none
def circD : Option (List Int) → D
  | none => .nilsl
  | some l => .p (ints l)

theorem circle_ac (G : Nat → Bool) : AC Try.prog 42 [.p (gEnc G)] [] (circD (circleL G)) [] := by
  refine AC.body T_ok mx_ok Try.func42 rfl rfl rfl rfl rfl rfl ?_
  conv => whnf
  refine (circlesA_ac outB (fun _ => gBlk G) outB_under (fun _ => rfl) outB_ren (fun _ _ => rfl) 68 yC (fun s l h1 h2 _ => circle1_ac (gBlk G) rfl (fun _ => rfl) s l h1 h2) G none).call [1, 0] rfl ⟨DLe.refl _, DLe.refl _, trivial⟩
    (ldHeap_cons rfl (BLe.refl _) rfl (ldHeap_cons rfl (BLe.refl _) rfl ldHeap_nil)) ?_
  rw [show circD (circleL G) = circD (circ G yC (outer 4) none) from rfl]
  generalize circ G yC (outer 4) none = r
  cases r with
  | none =>
    conv => whnf
    exact DoneLe.pure (DLe.refl _) (fun _ => rfl) rfl
  | some l =>
    conv => whnf
    exact DoneLe.pure (DLe.refl _) (fun _ => rfl) rfl

-- circles with one anti-dependency
def stepOk (G : Nat → Bool) (l : List Int) (i k : Nat) : Bool :=
  if k = i then G (25 + (l.getD k 0).toNat * 5 + (l.getD ((k + 1) % l.length) 0).toNat) else G ((l.getD k 0).toNat * 5 + (l.getD ((k + 1) % l.length) 0).toNat)
def oneAnti (G : Nat → Bool) (l : List Int) (i : Nat) : Bool := (List.range l.length).all (stepOk G l i)
def anyAnti (G : Nat → Bool) (l : List Int) (n : Nat) : Bool := (List.range n).any (oneAnti G l)
def yS (G : Nat → Bool) (s : Bool) (l : List Int) : Bool × Bool := (!(s || anyAnti G l l.length), s || anyAnti G l l.length)

theorem single1_ac (G : Nat → Bool) (s : Bool) (l : List Int) (h0 : l ≠ []) (hlen : l.length ≤ 5) (hf : five l) :
    AC Try.prog 72 ([.p (ints l)] ++ [.ref 0 0, .ref 1 0]) [gBlk G, .cells 4 [.p (.bool s)]] (.p (.bool (yS G s l).1)) [gBlk G, .cells 4 [.p (.bool (yS G s l).2)]] := by
  have hp := List.length_pos_iff.2 h0
  refine AC.body T_ok mx_ok Try.func72 rfl rfl rfl rfl rfl rfl ?_
  conv => whnf
  refine loop_fam (ι := Nat) (fun i => [(0, .p (ints l)), (1, .ref 0 0), (2, .ref 1 0), (11, i64 l.length), (12, i64 i)]) (fun i => [(0, gBlk G), (1, .cells 4 [.p (.bool (s || anyAnti G l i))])]) 2
    (fun i => i ≤ l.length) (fun i => l.length - i) 0 [] (Nat.zero_le _) ⟨rfl, by simp, ?_, ?_⟩ ?_
  · (repeat' (first | exact leSlots_nil | refine leSlots_cons ?_ rfl ?_)) <;> (first | exact DLeT.refl _ _ | (refine (DLe.p ?_).t _; (simp; done)) | skip)
  · refine leHeap_cons rfl (BLeT.refl _) rfl rfl (leHeap_cons rfl (BLeT.eq ?_) rfl rfl leHeap_nil)
    simp [anyAnti]
  · rintro i hi R hR
    conv => whnf
    refine condB_split (fun h1 => ?_) (fun h1 => ?_)
    · have h1 : i < l.length := by simpa using h1
      conv => whnf
      refine loop_fam (ι := Nat) (fun k => [(0, .p (ints l)), (1, .ref 0 0), (2, .ref 1 0), (5, i64 i), (6, .p (.bool ((List.range k).all (stepOk G l i)))), (11, i64 l.length), (12, i64 i), (15, .p (ints l)), (16, i64 l.length), (17, i64 k)])
        (fun k => [(0, gBlk G), (1, .cells 4 [.p (.bool (s || anyAnti G l i))])]) 2
        (fun k => k ≤ l.length) (fun k => l.length - k) 0 [] (Nat.zero_le _) ⟨rfl, by simp, ?_, ?_⟩ ?_
      · (repeat' (first | exact leSlots_nil | refine leSlots_cons ?_ rfl ?_)) <;> (first | exact DLeT.refl _ _ | (refine (DLe.p ?_).t _; (simp; done)) | skip)
      · (repeat' (first | exact leHeap_nil | refine leHeap_cons rfl ?_ rfl rfl ?_)) <;> (first | exact BLeT.refl _ | (refine BLeT.eq ?_; (simp; done)) | skip)
      · rintro k hk R2 hR2
        conv => whnf
        refine condB_split (fun h2 => ?_) (fun h2 => ?_)
        · have h2 : k < l.length := by simpa using h2
          conv => whnf
          refine getP_intro (.int .i64 (l.getD k 0)) (by first | omega | (dsimp only; omega) | (simp only [List.length_map]; omega)) (by rw [List.getD_eq_getElem?_getD, List.getElem?_eq_getElem h2]; simp) ?_
          conv => whnf
          refine wrapP_intro (wrap64 (by first | omega | (dsimp only; omega) | (simp only [List.length_map]; omega)) (by first | omega | (dsimp only; omega) | (simp only [List.length_map]; omega))) ?_
          conv => whnf
          refine needP_intro (by simpa using h0) ?_
          conv => whnf
          have htm : (((k : Int) + 1).tmod ((l.map (Pd.int .i64)).length : Int)) = ((k + 1) % l.length : Nat) := by
            rw [List.length_map]; exact (Int.ofNat_tmod (k + 1) l.length).symm
          have hml := Nat.mod_lt (k + 1) hp
          refine getP_intro (.int .i64 (l.getD ((k + 1) % l.length) 0)) (by rw [htm]; omega) (by rw [htm, Int.toNat_natCast, List.getD_eq_getElem?_getD, List.getElem?_eq_getElem hml]; simp) ?_
          conv => whnf
          have ha : 0 ≤ l.getD k 0 ∧ l.getD k 0 < 5 := by
            rw [List.getD_eq_getElem?_getD, List.getElem?_eq_getElem h2]; exact hf _ (List.getElem_mem h2)
          have hb : 0 ≤ l.getD ((k + 1) % l.length) 0 ∧ l.getD ((k + 1) % l.length) 0 < 5 := by
            rw [List.getD_eq_getElem?_getD, List.getElem?_eq_getElem hml]; exact hf _ (List.getElem_mem hml)
          have hall : (List.range (k + 1)).all (stepOk G l i) = ((List.range k).all (stepOk G l i) && stepOk G l i k) := by
            rw [List.range_succ, List.all_append]; simp
          refine condB_split (fun h3 => ?_) (fun h3 => ?_)
          · conv => whnf
            refine condB_split (fun h4 => ?_) (fun h4 => ?_)
            · have h4 : k = i := by simp at h4; omega
              subst h4
              conv => whnf
              refine needP_intro (⟨by omega, by omega⟩) ?_
              conv => whnf
              refine needP_intro (⟨by omega, by omega⟩) ?_
              conv => whnf
              refine getD_intro (.p (.bool (G (25 + (l.getD k 0).toNat * 5 + (l.getD ((k + 1) % l.length) 0).toNat)))) (by exact gD_get' G (by omega) (by omega)) ?_
              conv => whnf
              refine condB_split (fun h5 => ?_) (fun h5 => ?_)
              · conv => whnf
                refine wrapP_intro (wrap64 (by first | omega | (dsimp only; omega) | (simp only [List.length_map]; omega)) (by first | omega | (dsimp only; omega) | (simp only [List.length_map]; omega))) ?_
                conv => whnf
                refine hR2 _ _ _ (k + 1) h2 (by omega) ⟨rfl, by simp, ?_, ?_⟩
                · refine leSlots_cons (DLeT.refl _ _) rfl (leSlots_cons (DLeT.refl _ _) rfl (leSlots_cons (DLeT.refl _ _) rfl (leSlots_cons (DLeT.refl _ _) rfl (leSlots_cons ((DLe.p ?_).t _) rfl ?_))))
                  · rw [hall]
                    congr 1
                    simp at h5; simp [h3, stepOk, h5]
                  (repeat' (first | exact leSlots_nil | refine leSlots_cons ?_ rfl ?_)) <;> (first | exact DLeT.refl _ _ | (refine (DLe.p ?_).t _; (simp; done)) | skip)
                · (repeat' (first | exact leHeap_nil | refine leHeap_cons rfl ?_ rfl rfl ?_)) <;> (first | exact BLeT.refl _ | (refine BLeT.eq ?_; (simp; done)) | skip)
              · conv => whnf
                refine condB_split (fun h6 => ?_) (fun h6 => ?_)
                · simp at h6
                · conv => whnf
                  refine wrapP_intro (wrap64 (by first | omega | (dsimp only; omega) | (simp only [List.length_map]; omega)) (by first | omega | (dsimp only; omega) | (simp only [List.length_map]; omega))) ?_
                  conv => whnf
                  refine hR2 _ _ _ (k + 1) h2 (by omega) ⟨rfl, by simp, ?_, ?_⟩
                  · refine leSlots_cons (DLeT.refl _ _) rfl (leSlots_cons (DLeT.refl _ _) rfl (leSlots_cons (DLeT.refl _ _) rfl (leSlots_cons (DLeT.refl _ _) rfl (leSlots_cons ((DLe.p ?_).t _) rfl ?_))))
                    · rw [hall]
                      congr 1
                      simp at h5; simp [h3, stepOk, h5]
                    (repeat' (first | exact leSlots_nil | refine leSlots_cons ?_ rfl ?_)) <;> (first | exact DLeT.refl _ _ | (refine (DLe.p ?_).t _; (simp; done)) | skip)
                  · (repeat' (first | exact leHeap_nil | refine leHeap_cons rfl ?_ rfl rfl ?_)) <;> (first | exact BLeT.refl _ | (refine BLeT.eq ?_; (simp; done)) | skip)
            · have h4 : ¬ k = i := by simp at h4; omega
              conv => whnf
              refine condB_split (fun h6 => ?_) (fun h6 => ?_)
              · conv => whnf
                refine needP_intro (⟨by omega, by omega⟩) ?_
                conv => whnf
                refine needP_intro (⟨by omega, by omega⟩) ?_
                conv => whnf
                refine getD_intro (.p (.bool (G ((l.getD k 0).toNat * 5 + (l.getD ((k + 1) % l.length) 0).toNat)))) (by exact gD_get' G (by omega) (by omega)) ?_
                conv => whnf
                conv => whnf
                refine wrapP_intro (wrap64 (by first | omega | (dsimp only; omega) | (simp only [List.length_map]; omega)) (by first | omega | (dsimp only; omega) | (simp only [List.length_map]; omega))) ?_
                conv => whnf
                refine hR2 _ _ _ (k + 1) h2 (by omega) ⟨rfl, by simp, ?_, ?_⟩
                · refine leSlots_cons (DLeT.refl _ _) rfl (leSlots_cons (DLeT.refl _ _) rfl (leSlots_cons (DLeT.refl _ _) rfl (leSlots_cons (DLeT.refl _ _) rfl (leSlots_cons ((DLe.p ?_).t _) rfl ?_))))
                  · rw [hall]
                    congr 1
                    simp [h3, stepOk, h4]
                  (repeat' (first | exact leSlots_nil | refine leSlots_cons ?_ rfl ?_)) <;> (first | exact DLeT.refl _ _ | (refine (DLe.p ?_).t _; (simp; done)) | skip)
                · (repeat' (first | exact leHeap_nil | refine leHeap_cons rfl ?_ rfl rfl ?_)) <;> (first | exact BLeT.refl _ | (refine BLeT.eq ?_; (simp; done)) | skip)
              · simp at h6; omega
          · conv => whnf
            refine wrapP_intro (wrap64 (by first | omega | (dsimp only; omega) | (simp only [List.length_map]; omega)) (by first | omega | (dsimp only; omega) | (simp only [List.length_map]; omega))) ?_
            conv => whnf
            refine hR2 _ _ _ (k + 1) h2 (by omega) ⟨rfl, by simp, ?_, ?_⟩
            · refine leSlots_cons (DLeT.refl _ _) rfl (leSlots_cons (DLeT.refl _ _) rfl (leSlots_cons (DLeT.refl _ _) rfl (leSlots_cons (DLeT.refl _ _) rfl (leSlots_cons ((DLe.p ?_).t _) rfl ?_))))
              · rw [hall]
                congr 1
                simp [h3]
              (repeat' (first | exact leSlots_nil | refine leSlots_cons ?_ rfl ?_)) <;> (first | exact DLeT.refl _ _ | (refine (DLe.p ?_).t _; (simp; done)) | skip)
            · (repeat' (first | exact leHeap_nil | refine leHeap_cons rfl ?_ rfl rfl ?_)) <;> (first | exact BLeT.refl _ | (refine BLeT.eq ?_; (simp; done)) | skip)
        · have h2 : k = l.length := by simp at h2; omega
          subst h2
          have e1 : (List.range l.length).all (stepOk G l i) = oneAnti G l i := rfl
          rw [e1]
          have hany : anyAnti G l (i + 1) = (anyAnti G l i || oneAnti G l i) := by
            rw [anyAnti, List.range_succ, List.any_append]; simp [anyAnti]
          conv => whnf
          refine condB_split (fun h5 => ?_) (fun h5 => ?_)
          · conv => whnf
            refine wrapP_intro (wrap64 (by first | omega | (dsimp only; omega) | (simp only [List.length_map]; omega)) (by first | omega | (dsimp only; omega) | (simp only [List.length_map]; omega))) ?_
            conv => whnf
            refine hR _ _ _ (i + 1) h1 (by omega) ⟨rfl, by simp, ?_, ?_⟩
            · (repeat' (first | exact leSlots_nil | refine leSlots_cons ?_ rfl ?_)) <;> (first | exact DLeT.refl _ _ | (refine (DLe.p ?_).t _; (simp; done)) | skip)
            · refine leHeap_cons rfl (BLeT.refl _) rfl rfl (leHeap_cons rfl (BLeT.eq ?_) rfl rfl leHeap_nil)
              rw [hany]
              congr 3
              rw [← Bool.or_assoc, h5]
              rfl
          · conv => whnf
            refine wrapP_intro (wrap64 (by first | omega | (dsimp only; omega) | (simp only [List.length_map]; omega)) (by first | omega | (dsimp only; omega) | (simp only [List.length_map]; omega))) ?_
            conv => whnf
            refine hR _ _ _ (i + 1) h1 (by omega) ⟨rfl, by simp, ?_, ?_⟩
            · (repeat' (first | exact leSlots_nil | refine leSlots_cons ?_ rfl ?_)) <;> (first | exact DLeT.refl _ _ | (refine (DLe.p ?_).t _; (simp; done)) | skip)
            · refine leHeap_cons rfl (BLeT.refl _) rfl rfl (leHeap_cons rfl (BLeT.eq ?_) rfl rfl leHeap_nil)
              rw [hany]
              congr 3
              rw [← Bool.or_assoc, h5]
              rfl
    · have h1 : i = l.length := by simp at h1; omega
      subst h1
      conv => whnf
      refine DoneLe.mk [0, 1] rfl rfl (ldHeap_cons rfl (BLe.refl _) rfl (ldHeap_cons rfl (BLe.refl _) rfl ldHeap_nil)) (DLe.p rfl) rfl rfl

def singleB (G : Nat → Bool) : Bool := circ G (yS G) (outer 4) false
theorem single_ac (G : Nat → Bool) : AC Try.prog 47 [.p (gEnc G)] [] (.p (.bool (singleB G))) [] := by
  refine AC.body T_ok mx_ok Try.func47 rfl rfl rfl rfl rfl rfl ?_
  conv => whnf
  refine (circlesB_ac (fun _ => gBlk G) (fun s => .cells 4 [.p (.bool s)]) (fun _ => rfl) (fun _ => rfl) (fun _ _ => rfl) (fun _ _ => rfl) 72 (yS G) (fun s l h1 h2 h3 => single1_ac G s l h1 h2 h3) G false).call [0, 1] rfl ⟨DLe.refl _, DLe.refl _, trivial⟩
    (ldHeap_cons rfl (BLe.refl _) rfl (ldHeap_cons rfl (BLe.refl _) rfl ldHeap_nil)) ?_
  conv => whnf
  refine DoneLe.p ?_
  rfl

-- what holds of all states of a search
theorem tryAll_inv {σ : Type} (P : σ → Prop) (f : Int → σ → Bool × σ) (hf : ∀ t s, P s → P (f t s).2) : ∀ (ts : List Int) (s : σ), P s → P (tryAll f ts s).2
  | [], _, h => h
  | t :: ts, s, h => by
    have h2 := hf t s h
    simp only [tryAll]
    generalize hw : f t s = w at h2
    obtain ⟨b, w⟩ := w
    cases b
    · exact h2
    · exact tryAll_inv P f hf ts w h2
theorem ext_inv {σ : Type} (P : σ → Prop) (G : Nat → Bool) (y : σ → List Int → Bool × σ) (hy : ∀ s l, l ≠ [] → P s → P (y s l).2) : ∀ (r : Nat) (l : List Int) (s : σ), l ≠ [] → P s → P (ext G y r l s).2
  | 0, l, s, hl, h => by
    simp only [ext]
    split
    · exact hy s l hl h
    · exact h
  | r + 1, l, s, hl, h => by
    simp only [ext]
    refine tryAll_inv P _ (fun t s hs => ?_) _ s h
    split
    · exact ext_inv P G y hy r _ s (by simp) hs
    · exact hs
theorem circ_inv {σ : Type} (P : σ → Prop) (G : Nat → Bool) (y : σ → List Int → Bool × σ) (hy : ∀ s l, l ≠ [] → P s → P (y s l).2) : ∀ (L : List (Nat × Int)) (s : σ), P s → P (circ G y L s)
  | [], _, h => h
  | (n, a) :: L, s, h => by
    have h2 := ext_inv P G y hy (n - 1) [a] s (by simp) h
    simp only [circ]
    generalize hw : ext G y (n - 1) [a] s = w at h2
    obtain ⟨b, w⟩ := w
    cases b
    · exact h2
    · exact circ_inv P G y hy L w h2
theorem circle_ne {G : Nat → Bool} {l : List Int} (h : circleL G = some l) : l ≠ [] :=
  circ_inv (fun s => ∀ l, s = some l → l ≠ []) G yC (fun s l hl _ l' e => by simp [yC] at e; subst e; exact hl) (outer 4) none (by simp) l h
theorem map_ne {l : List Int} (h : l ≠ []) : l.map (Pd.int .i64) ≠ [] := by simpa using h
end Qa.S43
