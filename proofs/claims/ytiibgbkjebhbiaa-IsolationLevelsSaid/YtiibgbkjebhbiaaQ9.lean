/-
  The function that draws a history.
  Part of a proof about the program's own text; written by an AI agent. No statement is proved here: the lemmas that the last text needs.
-/
import Derived.Test.YtiibgbkjebhbiaaQ8
set_option maxRecDepth 100000
set_option maxHeartbeats 4000000
namespace Qa.S43
open Go Go.Proofs

/-- what Made has done so far. -/
structure MS where
  tape : Tape
  st : Nat → Int
  wr : Nat → List Ev
  es : List Ev
def bEv (i : Nat) : Ev := ⟨5, i, 0, 0, 0⟩
def set1 (st : Nat → Int) (i : Nat) : Nat → Int := fun x => if x = i then 1 else st x
def MS.beg (s : MS) (i : Nat) : MS := if s.st i = 0 then { s with st := set1 s.st i, es := s.es ++ [bEv i] } else s
def own (i : Int) (ws : List Ev) (p : Int × Int) : Int × Int := ws.foldl (fun p w => if w.tr = i then (w.value, i) else p) p
def MS.look (S : List Int) (j : Nat) (s : MS) : (Int × Int) × Tape :=
  match s.wr j with
  | [] => ((S.getD j 0, -1), s.tape)
  | w :: ws => ((((w :: ws).getD (s.tape.n (w :: ws).length).1.toNat w).value, ((w :: ws).getD (s.tape.n (w :: ws).length).1.toNat w).tr), (s.tape.n (w :: ws).length).2)
def MS.read (S : List Int) (i j : Nat) (s : MS) : MS :=
  { s with tape := (s.look S j).2, es := s.es ++ [⟨1, i, j, (own i (s.wr j) (s.look S j).1).1, (own i (s.wr j) (s.look S j).1).2⟩] }
def wEv (left : Int) (i j : Nat) : Ev := ⟨2, i, j, 100 * i + left, 0⟩
def MS.write (left : Int) (i j : Nat) (s : MS) : MS :=
  { s with wr := fun x => if x = j then s.wr x ++ [wEv left i j] else s.wr x, es := s.es ++ [wEv left i j] }
def MS.last (i : Nat) (s : MS) : MS := { s with tape := (s.tape.pick [3, 3, 4]).2, es := s.es ++ [⟨(s.tape.pick [3, 3, 4]).1, i, 0, 0, 0⟩] }
def MS.fin (i : Nat) (s : MS) : MS := MS.last i { s with st := fun x => if x = i then 2 else s.st x }
def MS.act (S : List Int) (left : Int) (i j : Nat) (s : MS) : MS :=
  if (s.tape.n 6).1 ≤ 1 then MS.read S i j { s with tape := (s.tape.n 6).2 }
  else if (s.tape.n 6).1 ≤ 4 then MS.write left i j { s with tape := (s.tape.n 6).2 }
  else MS.fin i { s with tape := (s.tape.n 6).2 }
def MS.step (S : List Int) (n : Nat) (left : Int) (s : MS) : MS :=
  if s.st (s.tape.n n).1.toNat = 2 then { s with tape := ((s.tape.n n).2.n S.length).2 }
  else (({ s with tape := ((s.tape.n n).2.n S.length).2 } : MS).beg (s.tape.n n).1.toNat).act S left (s.tape.n n).1.toNat ((s.tape.n n).2.n S.length).1.toNat
def stepsTo (S : List Int) (n N : Nat) (s : MS) : Nat → MS
  | 0 => s
  | k + 1 => (stepsTo S n N s k).step S n ((N : Int) - k)
def finTo (s : MS) : Nat → MS
  | 0 => s
  | k + 1 => if (finTo s k).st k = 1 then (finTo s k).last k else finTo s k

structure MS.bd (k : Nat) (s : MS) : Prop where
  tape : s.tape.ok
  es : s.es.length ≤ 2 * k
  wr : ∀ j, (s.wr j).length ≤ k
theorem MS.look_ok {S : List Int} {j : Nat} {s : MS} (h : s.tape.ok) : (s.look S j).2.ok := by
  unfold MS.look
  split
  · exact h
  · rename_i w ws _
    exact Tape.n_ok h ((w :: ws).length : Int)
theorem MS.step_bd {S : List Int} {n : Nat} {left : Int} {s : MS} {k : Nat} (h : s.bd k) : (s.step S n left).bd (k + 1) := by
  have t1 : ((s.tape.n n).2.n S.length).2.ok := Tape.n_ok (Tape.n_ok h.tape _) _
  unfold MS.step
  split
  · exact ⟨t1, by have := h.es; simp only; omega, fun j => by have := h.wr j; simp only; omega⟩
  · have hb : ∀ i, (({ s with tape := ((s.tape.n n).2.n S.length).2 } : MS).beg i).tape.ok ∧ (({ s with tape := ((s.tape.n n).2.n S.length).2 } : MS).beg i).es.length ≤ 2 * k + 1 ∧ (({ s with tape := ((s.tape.n n).2.n S.length).2 } : MS).beg i).wr = s.wr := fun i => by
      unfold MS.beg
      have := h.es
      split
      · exact ⟨t1, by simp; omega, rfl⟩
      · exact ⟨t1, by simp only; omega, rfl⟩
    obtain ⟨b1, b2, b3⟩ := hb (s.tape.n n).1.toNat
    generalize ({ s with tape := ((s.tape.n n).2.n S.length).2 } : MS).beg (s.tape.n n).1.toNat = s1 at b1 b2 b3 ⊢
    have t3 : (s1.tape.n 6).2.ok := Tape.n_ok b1 6
    have hw := h.wr
    rw [← b3] at hw
    unfold MS.act
    split
    · exact ⟨MS.look_ok t3, by simp [MS.read]; omega, fun j => by have := hw j; simp only [MS.read]; omega⟩
    · split
      · refine ⟨t3, by simp [MS.write]; omega, fun j => ?_⟩
        have := hw j
        simp only [MS.write]
        split
        · simp; omega
        · omega
      · exact ⟨Tape.pick_ok t3 [3, 3, 4], by simp [MS.fin, MS.last]; omega, fun j => by have := hw j; simp only [MS.fin, MS.last]; omega⟩

theorem stepsTo_bd {S : List Int} {n N : Nat} {s : MS} (h : s.bd 0) : ∀ k, (stepsTo S n N s k).bd k
  | 0 => h
  | k + 1 => MS.step_bd (stepsTo_bd h k)

def stD (st : Nat → Int) (n : Nat) : List D := (List.range n).map fun i => i64 (st i)
theorem stD_get (st : Nat → Int) {n i : Nat} (h : i < n) : (stD st n)[i]? = some (i64 (st i)) := by simp [stD, h]
theorem stD_set (st : Nat → Int) {n i : Nat} (v : Int) : (stD st n).set i (i64 v) = stD (fun x => if x = i then v else st x) n := by
  apply List.ext_getElem?
  intro j
  simp only [stD, List.getElem?_set, List.length_map, List.length_range, List.getElem?_map]
  by_cases hj : i = j
  · subst hj
    by_cases hn : i < n <;> simp [hn]
  · simp [hj, Ne.symm hj]
    by_cases hn : j < n <;> simp [hn, Ne.symm hj]
def wrD (wr : Nat → List Ev) (m : Nat) : List D := (List.range m).map fun k => .acc (5 + k) ((wr k).map Ev.enc)
theorem wrD_get (wr : Nat → List Ev) {m j : Nat} (h : j < m) : (wrD wr m)[j]? = some (.acc (5 + j) ((wr j).map Ev.enc)) := by simp [wrD, h]
theorem wrD_set (wr : Nat → List Ev) {m j : Nat} (l : List Ev) : (wrD wr m).set j (.acc (5 + j) (l.map Ev.enc)) = wrD (fun x => if x = j then l else wr x) m := by
  apply List.ext_getElem?
  intro i
  simp only [wrD, List.getElem?_set, List.length_map, List.length_range, List.getElem?_map]
  by_cases hj : j = i
  · subst hj
    by_cases hn : j < m <;> simp [hn]
  · simp [hj, Ne.symm hj]
    by_cases hn : i < m <;> simp [hn, Ne.symm hj]

def Tape.made (t : Tape) : MS × List Int :=
  let S := t.start.1
  let r := t.start.2.range 1 4
  let q := r.2.range 4 24
  (finTo (stepsTo S r.1.toNat q.1.toNat ⟨q.2, fun _ => 0, fun _ => [], []⟩ q.1.toNat) r.1.toNat, S)
def Tape.hist (t : Tape) : Hist := ⟨t.made.2, t.made.1.es⟩

theorem wrD0 {m : Nat} (h1 : 1 ≤ m) (h3 : m ≤ 3) : DLeTL [5, 6, 7, 8] (List.replicate m .nilsl) (wrD (fun _ => []) m) := by
  match m, h1, h3 with
  | 1, _, _ => exact DLeTL.cons (DLeT.nil (by simp)) DLeTL.nil
  | 2, _, _ => exact DLeTL.cons (DLeT.nil (by simp)) (DLeTL.cons (DLeT.nil (by simp)) DLeTL.nil)
  | 3, _, _ => exact DLeTL.cons (DLeT.nil (by simp)) (DLeTL.cons (DLeT.nil (by simp)) (DLeTL.cons (DLeT.nil (by simp)) DLeTL.nil))
theorem wrD_under (wr : Nat → List Ev) {m M : Nat} (h1 : 1 ≤ m) (h3 : m ≤ 3) (hM : 8 ≤ M) : (Blk.cells 25 (wrD wr m)).under (below M) = true := by
  match m, h1, h3 with
  | 1, _, _ | 2, _, _ | 3, _, _ => simp [Blk.under, wrD, List.range, List.range.loop, underL, D.under, below]; omega
theorem accEq {a : D} {xs ys : List Pd} (h : xs = ys) : BLeT [] (.cells 27 [a, .acc 8 xs]) (.cells 27 [a, .acc 8 ys]) := by rw [h]; exact BLeT.refl _
theorem tokEq {a b : Nat} (h : a = b) : BLeT [] (.tok 58 5 a) (.tok 58 5 b) := by rw [h]; exact BLeT.refl _
theorem stEq {st st' : Nat → Int} {n i : Nat} {v : Int} (h : (fun x => if x = i then v else st x) = st') : BLeT [] (.cells 3 ((stD st n).set (0 + (i : Int).toNat * 1) (i64 v))) (.cells 3 (stD st' n)) := by
  have e : 0 + (i : Int).toNat * 1 = i := by simp
  rw [e, stD_set, h]; exact BLeT.refl _
theorem stEq2 {st st' : Nat → Int} {n i : Nat} {u v : Int} (h : (fun x => if x = i then v else st x) = st') : BLeT [] (.cells 3 (((stD st n).set (0 + (i : Int).toNat * 1) (i64 u)).set (0 + (i : Int).toNat * 1) (i64 v))) (.cells 3 (stD st' n)) := by
  rw [List.set_set]; exact stEq h
theorem wrEq {wr wr' : Nat → List Ev} {m j : Nat} {xs : List Pd} {e : Ev} (hx : xs = (wr j).map Ev.enc ++ [e.enc]) (h : (fun x => if x = j then wr j ++ [e] else wr x) = wr') :
    BLeT [] (.cells 25 ((wrD wr m).set (0 + (j : Int).toNat * 1) (.acc (5 + j) xs))) (.cells 25 (wrD wr' m)) := by
  have e1 : 0 + (j : Int).toNat * 1 = j := by simp
  have e2 : xs = (wr j ++ [e]).map Ev.enc := by rw [hx]; simp
  rw [e1, e2, wrD_set, h]; exact BLeT.refl _
theorem aggLe (l : List Int) (b : Nat) (xs : List Pd) : DLe (.agg [.p (ints l), .acc b xs]) (.p (.agg [ints l, .list xs])) := fun c w v h => by
  obtain ⟨vs, rfl, hv⟩ := h
  match vs, hv with
  | [v1, v2], ⟨h1, h2, _⟩ =>
    have o1 : v1.oneCell' = true := one_cell h1 rfl
    have o2 : v2.oneCell' = true := one_cell h2 rfl
    refine Rp.agg _ _ rfl (fun v hv => ?_) (fun j c v hc hv => ?_)
    · simp at hv; rcases hv with rfl | rfl <;> assumption
    · match j with
      | 0 => simp at hc hv; subst hc; subst hv; exact h1
      | 1 => simp at hc hv; subst hc; subst hv; exact h2.1
      | j + 2 => simp at hc
theorem finTo_st (s : MS) : ∀ q, (finTo s q).st = s.st
  | 0 => rfl
  | q + 1 => by
    rw [finTo]
    split
    · exact finTo_st s q
    · exact finTo_st s q
theorem finTo_len (s : MS) : ∀ q, (finTo s q).es.length ≤ s.es.length + q
  | 0 => Nat.le_refl _
  | q + 1 => by
    have := finTo_len s q
    rw [finTo]
    split
    · simp [MS.last]; omega
    · omega
theorem finTo_ok {s : MS} (h : s.tape.ok) : ∀ q, (finTo s q).tape.ok
  | 0 => h
  | q + 1 => by
    rw [finTo]
    split
    · exact Tape.pick_ok (finTo_ok h q) [3, 3, 4]
    · exact finTo_ok h q
theorem look_nil {S : List Int} {j : Nat} {s : MS} (h : s.wr j = []) : s.look S j = ((S.getD j 0, -1), s.tape) := by simp [MS.look, h]
theorem look_cons {S : List Int} {j q : Nat} {s : MS} (l : List Ev) (hl : s.wr j = l) (hq : q < l.length) (h : (s.tape.n l.length).1 = q) : s.look S j = ((l[q].value, l[q].tr), (s.tape.n l.length).2) := by
  cases l with
  | nil => simp at hq
  | cons w ws =>
    unfold MS.look
    rw [hl]
    dsimp only
    rw [h, Int.toNat_natCast, List.getD_eq_getElem?_getD, List.getElem?_eq_getElem hq]
    rfl
theorem own_succ (i : Int) (ws : List Ev) (p : Int × Int) {q : Nat} (h : q < ws.length) : own i (ws.take (q + 1)) p = if ws[q].tr = i then (ws[q].value, i) else own i (ws.take q) p := by
  rw [List.take_succ_eq_append_getElem h, own, List.foldl_append]; rfl
theorem underL_map {α : Type} (f : α → D) (m : Ids) (h : ∀ a, (f a).under m = true) : ∀ l : List α, underL m (l.map f) = true
  | [] => rfl
  | a :: l => by simp [underL, h a, underL_map f m h l]
theorem stD_under (st : Nat → Int) (n m : Nat) : (Blk.cells 3 (stD st n)).under (below m) = true := underL_map _ _ (fun _ => rfl) _

theorem made_ac (t : Tape) (h : t.ok) : AC Try.prog 12 [.ref 0 0] [t.blk] (.p t.hist.enc) [t.made.1.tape.blk] := by
  have hSl := t.start_len
  have hSo := t.start_ok h
  have hr := t.start.2.range_in (show (1 : Int) ≤ 4 by omega)
  have hro := Tape.range_ok hSo 1 4
  have hq := (t.start.2.range 1 4).2.range_in (show (4 : Int) ≤ 24 by omega)
  have hqo := Tape.range_ok hro 4 24
  obtain ⟨n, hn⟩ : ∃ n : Nat, (t.start.2.range 1 4).1 = n := ⟨(t.start.2.range 1 4).1.toNat, by omega⟩
  obtain ⟨N, hN⟩ : ∃ N : Nat, ((t.start.2.range 1 4).2.range 4 24).1 = N := ⟨((t.start.2.range 1 4).2.range 4 24).1.toNat, by omega⟩
  obtain ⟨s0, hs0⟩ : ∃ s0 : MS, s0 = ⟨((t.start.2.range 1 4).2.range 4 24).2, fun _ => 0, fun _ => [], []⟩ := ⟨_, rfl⟩
  have hb0 : s0.bd 0 := by subst hs0; exact ⟨hqo, by simp, by simp⟩
  obtain ⟨S, hS⟩ : ∃ S, t.start.1 = S := ⟨_, rfl⟩
  have e1 : t.made = (finTo (stepsTo S n N s0 N) n, S) := by simp [Tape.made, hn, hN, hs0, hS]
  have e2 : t.hist = ⟨S, (finTo (stepsTo S n N s0 N) n).es⟩ := by simp [Tape.hist, e1]
  rw [e1, e2]
  have hsta := start_ac t h
  rw [hS] at hSl hsta
  have hr1 := range_ac t.start.2 hSo 1 4 (by omega) (by omega) (by omega)
  have hr2 := range_ac (t.start.2.range 1 4).2 hro 4 24 (by omega) (by omega) (by omega)
  rw [hn] at hr1 hr
  rw [hN] at hr2 hq
  refine AC.body T_ok mx_ok Try.func12 rfl rfl rfl rfl rfl rfl ?_
  conv => whnf
  refine hsta.call [0] rfl ⟨DLe.refl _, trivial⟩ (ldHeap_cons rfl (BLe.refl _) rfl ldHeap_nil) ?_
  conv => whnf
  refine hr1.call [0] rfl ⟨DLe.refl _, DLe.refl _, DLe.refl _, trivial⟩ (ldHeap_cons rfl (BLe.refl _) rfl ldHeap_nil) ?_
  conv => whnf
  refine needP_intro (⟨by omega, by omega, by omega⟩) ?_
  conv => whnf
  refine needP_intro (⟨by omega, by omega, by simp; omega⟩) ?_
  conv => whnf
  refine hr2.call [0] rfl ⟨DLe.refl _, DLe.refl _, DLe.refl _, trivial⟩ (ldHeap_cons rfl (BLe.refl _) rfl ldHeap_nil) ?_
  conv => whnf
  refine loop_fam (ι := Nat × MS) (fun s => [(0, .ref 0 0), (2, .ref 1 0), (3, .ref 2 0), (4, i64 n), (5, .ms 3 1 0 n n), (6, .ms 4 1 0 S.length S.length), (7, i64 ((N : Int) - s.1))])
    (fun s => [(0, s.2.tape.blk), (1, .cells 27 [.nilsl, .nilsl]), (2, .cells 27 [.p (ints S), .acc 8 (s.2.es.map Ev.enc)]), (3, .cells 3 (stD s.2.st n)), (4, .cells 25 (wrD s.2.wr S.length)),
      (5, .tok 58 5 (s.2.wr 0).length), (6, .tok 58 5 (s.2.wr 1).length), (7, .tok 58 5 (s.2.wr 2).length), (8, .tok 58 5 s.2.es.length)]) 9
    (fun s => s.1 ≤ N ∧ s.2 = stepsTo S n N s0 s.1) (fun s => N - s.1) (0, s0) [5, 6, 7, 8] ⟨Nat.zero_le _, rfl⟩ ⟨rfl, by simp, ?_, ?_⟩ ?_
  · refine leSlots_cons (DLeT.refl _ _) rfl (leSlots_cons (DLeT.refl _ _) rfl (leSlots_cons (DLeT.refl _ _) rfl (leSlots_cons (DLeT.refl _ _) rfl (leSlots_cons (DLeT.refl _ _) rfl (leSlots_cons ((DLe.eq ?_).t _) rfl (leSlots_cons ((DLe.eq ?_).t _) rfl leSlots_nil))))))
    · simp; rfl
    · simp [D.ren]; rfl
  · subst hs0
    refine leHeap_cons rfl (BLeT.refl _) rfl rfl (leHeap_cons rfl (BLeT.refl _) rfl rfl (leHeap_cons rfl (BLeT.cells rfl (DLeTL.cons (DLeT.refl _ _) (DLeTL.cons (DLeT.nil (by simp)) DLeTL.nil))) rfl rfl (leHeap_cons rfl (BLeT.eq ?_) rfl (stD_under _ _ _)
      (leHeap_cons rfl (BLeT.cells rfl (by rw [List.length_map, Int.toNat_natCast]; exact wrD0 hSl.1 hSl.2)) rfl (wrD_under _ hSl.1 hSl.2 (by omega)) (leHeap_tok (by simp) rfl (leHeap_tok (by simp) rfl (leHeap_tok (by simp) rfl (leHeap_tok (by simp) rfl leHeap_nil))))))))
    simp [stD, List.map_const']
  · rintro ⟨k, s⟩ ⟨hk, hs⟩ R hR
    dsimp only at hk hs
    conv => whnf
    have hbd : s.bd k := hs ▸ stepsTo_bd hb0 k
    have hes := hbd.es
    have hto := hbd.tape
    refine condB_split (fun h1 => ?_) (fun h1 => ?_)
    · have h1 : k < N := by simp at h1; omega
      have hstep : stepsTo S n N s0 (k + 1) = s.step S n ((N : Int) - k) := by rw [stepsTo, ← hs]
      have m1 := modG_lt s.tape.raw.1 (show (1 : Int) ≤ n by omega)
      have hto1 := Tape.n_ok hto n
      have m2 := modG_lt (s.tape.n n).2.raw.1 (show (1 : Int) ≤ S.length by omega)
      have hto2 := Tape.n_ok hto1 S.length
      have hn1 := n_ac s.tape hto n (by omega)
      have hn2 := n_ac (s.tape.n n).2 hto1 S.length (by omega)
      obtain ⟨i, hi⟩ : ∃ i : Nat, (s.tape.n n).1 = i := ⟨(s.tape.n n).1.toNat, by have : 0 ≤ (s.tape.n n).1 := m1.1; omega⟩
      obtain ⟨j, hj⟩ : ∃ j : Nat, ((s.tape.n n).2.n S.length).1 = j := ⟨((s.tape.n n).2.n S.length).1.toNat, by have : 0 ≤ ((s.tape.n n).2.n S.length).1 := m2.1; omega⟩
      have hin : i < n := by have : (s.tape.n n).1 < n := m1.2; omega
      have hjm : j < S.length := by have : ((s.tape.n n).2.n S.length).1 < S.length := m2.2; omega
      rw [hi] at hn1
      rw [hj] at hn2
      generalize hT2 : ((s.tape.n n).2.n S.length).2 = T2 at hn2 hto2
      have hst : s.step S n ((N : Int) - k) = if s.st i = 2 then { s with tape := T2 } else (({ s with tape := T2 } : MS).beg i).act S ((N : Int) - k) i j := by
        unfold MS.step
        rw [hT2, hi, hj]; simp
      conv => whnf
      refine hn1.call [0] rfl ⟨DLe.refl _, DLe.refl _, trivial⟩ (ldHeap_cons rfl (BLe.refl _) rfl ldHeap_nil) ?_
      conv => whnf
      refine hn2.call [0] rfl ⟨DLe.refl _, DLe.eq ?_, trivial⟩ (ldHeap_cons rfl (BLe.refl _) rfl ldHeap_nil) ?_
      · simp; rfl
      conv => whnf
      refine needP_intro (by kernel_rfl) ?_
      conv => whnf
      refine needP_intro (⟨by omega, by omega⟩) ?_
      conv => whnf
      refine getD_intro (i64 (s.st i)) (by simpa using stD_get s.st hin) ?_
      conv => whnf
      refine condB_split (fun h2 => ?_) (fun h2 => ?_)
      · have h2 : s.st i = 2 := by simpa using h2
        rw [if_pos h2] at hst
        conv => whnf
        refine wrapP_intro (wrap64 (by first | omega | (dsimp only; omega) | (simp only [List.length_map]; omega)) (by first | omega | (dsimp only; omega) | (simp only [List.length_map]; omega))) ?_
        conv => whnf
        refine hR _ _ _ (k + 1, { s with tape := T2 }) ⟨h1, by rw [hstep, hst]⟩ (by dsimp only; omega) ⟨rfl, by simp, ?_, ?_⟩
        · (repeat' (first | exact leSlots_nil | refine leSlots_cons ?_ rfl ?_)) <;> (first | exact DLeT.refl _ _ | (refine (DLe.p ?_).t _; (simp; done)) | skip)
          · exact (DLe.eq (iSub (by dsimp only; omega))).t _
        · refine leHeap_cons rfl ?_ rfl rfl (leHeap_cons rfl ?_ rfl rfl (leHeap_cons rfl ?_ rfl rfl (leHeap_cons rfl ?_ rfl (stD_under _ _ _) (leHeap_cons rfl ?_ rfl (wrD_under _ hSl.1 hSl.2 (by omega)) (leHeap_cons rfl ?_ rfl rfl (leHeap_cons rfl ?_ rfl rfl (leHeap_cons rfl ?_ rfl rfl (leHeap_cons rfl ?_ rfl rfl leHeap_nil)))))))) <;> (first | exact BLeT.refl _ | (refine BLeT.eq ?_; (simp; done)) | skip)
      have h2 : ¬ s.st i = 2 := by simpa using h2
      rw [if_neg h2] at hst
      have m3 := modG_lt T2.raw.1 (show (1 : Int) ≤ 6 by omega)
      have hto3 := Tape.n_ok hto2 6
      have hn3 := n_ac T2 hto2 6 (by omega)
      obtain ⟨c, hc⟩ : ∃ c : Nat, (T2.n 6).1 = c := ⟨(T2.n 6).1.toNat, by have : 0 ≤ (T2.n 6).1 := m3.1; omega⟩
      have hc6 : c < 6 := by have : (T2.n 6).1 < 6 := m3.2; omega
      rw [hc] at hn3
      generalize hT3 : (T2.n 6).2 = T3 at hn3 hto3
      conv => whnf
      refine needP_intro (⟨by omega, by omega⟩) ?_
      conv => whnf
      refine getD_intro (i64 (s.st i)) (by simpa using stD_get s.st hin) ?_
      conv => whnf
      refine condB_split (fun h3 => ?_) (fun h3 => ?_)
      · have h3 : s.st i = 0 := by simpa using h3
        rw [MS.beg, if_pos (by exact h3)] at hst
        conv => whnf
        refine needP_intro (⟨by omega, by omega⟩) ?_
        conv => whnf
        refine needP_intro (by simp [stD]; omega) ?_
        conv => whnf
        refine needP_intro (fun x hx => by simp at hx; subst hx; rfl) ?_
        conv => whnf
        refine needP_intro (⟨by simp, fun z hz => by simp at hz; rcases hz with ⟨a, _, rfl⟩ | hz <;> first | rfl | (subst hz; rfl) | (rcases hz with rfl | rfl <;> rfl), by simp; omega⟩) ?_
        conv => whnf
        refine hn3.call [0] rfl ⟨DLe.refl _, DLe.refl _, trivial⟩ (ldHeap_cons rfl (BLe.refl _) rfl ldHeap_nil) ?_
        conv => whnf
        have hact : s.step S n ((N : Int) - k) = (if c ≤ 1 then MS.read S i j ⟨T3, set1 s.st i, s.wr, s.es ++ [bEv i]⟩ else if c ≤ 4 then MS.write ((N : Int) - k) i j ⟨T3, set1 s.st i, s.wr, s.es ++ [bEv i]⟩ else MS.fin i ⟨T3, set1 s.st i, s.wr, s.es ++ [bEv i]⟩) := by
          rw [hst, MS.act]
          dsimp only
          rw [hc, hT3]
          norm_cast
        have hcc : c ≤ 1 ∨ (2 ≤ c ∧ c ≤ 4) ∨ c = 5 := by omega
        rcases hcc with hc1 | ⟨hc1, hc2⟩ | hc1
        · rw [if_pos hc1] at hact
          clear hc
          rcases (show c = 0 ∨ c = 1 by omega) with rfl | rfl
          all_goals
            conv => whnf
            have hwl := hbd.wr j
            have hSj : (S.map (Pd.int .i64))[j]? = some (.int .i64 (S.getD j 0)) := by
              rw [List.getElem?_map, List.getElem?_eq_getElem hjm, List.getD_eq_getElem?_getD, List.getElem?_eq_getElem hjm]; rfl
            refine getP_intro (.int .i64 (S.getD j 0)) (by first | omega | (dsimp only; omega) | (simp only [List.length_map]; omega)) (by simpa using hSj) ?_
            conv => whnf
            refine needP_intro (⟨by omega, by omega⟩) ?_
            conv => whnf
            refine getD_intro (.acc (5 + j) ((s.wr j).map Ev.enc)) (by simpa using wrD_get s.wr hjm) ?_
            conv => whnf
            refine condB_split (fun h5 => ?_) (fun h5 => ?_)
            · have h5 : 0 < (s.wr j).length := by simpa using h5
              have m5 := modG_lt T3.raw.1 (show (1 : Int) ≤ (s.wr j).length by omega)
              have hn5 := n_ac T3 hto3 (s.wr j).length (by omega)
              have hto5 := Tape.n_ok hto3 (s.wr j).length
              obtain ⟨p, hp⟩ : ∃ p : Nat, (T3.n (s.wr j).length).1 = p := ⟨(T3.n (s.wr j).length).1.toNat, by have : 0 ≤ (T3.n (s.wr j).length).1 := m5.1; omega⟩
              have hpl : p < (s.wr j).length := by have : (T3.n (s.wr j).length).1 < (s.wr j).length := m5.2; omega
              have hlk := look_cons (S := S) (s := ⟨T3, set1 s.st i, s.wr, s.es ++ [bEv i]⟩) (s.wr j) rfl hpl hp
              rw [MS.read, hlk] at hact
              rw [hp] at hn5
              conv => whnf
              refine hn5.call [0] rfl ⟨DLe.refl _, DLe.eq ?_, trivial⟩ (ldHeap_cons rfl (BLe.refl _) rfl ldHeap_nil) ?_
              · simp; rfl
              conv => whnf
              refine getP_intro ((s.wr j)[p].enc) (by first | omega | (dsimp only; omega) | (simp only [List.length_map]; omega)) (by simpa using evs_get hpl) ?_
              conv => whnf
              refine needP_intro (by kernel_rfl) ?_
              conv => whnf
              refine needP_intro (⟨by omega, by omega⟩) ?_
              conv => whnf
              refine getD_intro (.acc (5 + j) ((s.wr j).map Ev.enc)) (by simpa using wrD_get s.wr hjm) ?_
              conv => whnf
              refine loop_fam (ι := Nat) (fun q => [(0, .ref 0 0), (2, .ref 1 0), (3, .ref 2 0), (4, i64 n), (5, .ms 3 1 0 n n), (6, .ms 4 1 0 S.length S.length), (7, i64 ((N : Int) - k)), (8, i64 i), (10, .ref 9 0), (111, .p (evs (s.wr j))), (112, i64 (s.wr j).length), (113, i64 q)])
                (fun q => [(0, Tape.blk ((T3.n (s.wr j).length).2)), (1, .cells 27 [.nilsl, .nilsl]), (2, .cells 27 [.p (ints S), .acc 8 ((s.es ++ [bEv i]).map Ev.enc)]), (3, .cells 3 (stD (set1 s.st i) n)), (4, .cells 25 (wrD s.wr S.length)),
                  (5, .tok 58 5 (s.wr 0).length), (6, .tok 58 5 (s.wr 1).length), (7, .tok 58 5 (s.wr 2).length), (8, .tok 58 5 (s.es ++ [bEv i]).length),
                  (9, .cells 58 [i64 1, i64 i, i64 j, i64 (own i ((s.wr j).take q) ((s.wr j)[p].value, (s.wr j)[p].tr)).1, i64 (own i ((s.wr j).take q) ((s.wr j)[p].value, (s.wr j)[p].tr)).2])]) 10
                (fun q => q ≤ (s.wr j).length) (fun q => (s.wr j).length - q) 0 [] (Nat.zero_le _) ⟨rfl, by simp, ?_, ?_⟩ ?_
              · (repeat' (first | exact leSlots_nil | refine leSlots_cons ?_ rfl ?_)) <;> (first | exact DLeT.refl _ _ | (refine (DLe.p ?_).t _; (simp; done)) | skip)
                · exact (DLe.acc _ _).t _
              · refine leHeap_cons rfl ?_ rfl rfl (leHeap_cons rfl ?_ rfl rfl (leHeap_cons rfl ?_ rfl rfl (leHeap_cons rfl ?_ rfl (stD_under _ _ _) (leHeap_cons rfl ?_ rfl (wrD_under _ hSl.1 hSl.2 (by omega)) (leHeap_cons rfl ?_ rfl rfl (leHeap_cons rfl ?_ rfl rfl (leHeap_cons rfl ?_ rfl rfl (leHeap_cons rfl ?_ rfl rfl (leHeap_cons rfl ?_ rfl rfl leHeap_nil)))))))))
                all_goals first
                  | exact BLeT.refl _
                  | exact stEq rfl
                  | (refine accEq ?_; simp; done)
                  | (refine accEq ?_; simp; rfl)
                  | (refine tokEq ?_; simp; done)
                  | skip
                all_goals trace_state
              · rintro q hq R2 hR2
                conv => whnf
                refine condB_split (fun h6 => ?_) (fun h6 => ?_)
                · have h6 : q < (s.wr j).length := by simpa using h6
                  conv => whnf
                  refine getP_intro ((s.wr j)[q].enc) (by first | omega | (dsimp only; omega) | (simp only [List.length_map]; omega)) (by simpa using evs_get h6) ?_
                  conv => whnf
                  have eo := own_succ i (s.wr j) ((s.wr j)[p].value, (s.wr j)[p].tr) h6
                  refine condB_split (fun h7 => ?_) (fun h7 => ?_)
                  · have h7 : (s.wr j)[q].tr = i := by simpa using h7
                    rw [if_pos h7] at eo
                    conv => whnf
                    refine wrapP_intro (wrap64 (by first | omega | (dsimp only; omega) | (simp only [List.length_map]; omega)) (by first | omega | (dsimp only; omega) | (simp only [List.length_map]; omega))) ?_
                    conv => whnf
                    refine hR2 _ _ _ (q + 1) h6 (by omega) ⟨rfl, by simp, ?_, ?_⟩
                    · (repeat' (first | exact leSlots_nil | refine leSlots_cons ?_ rfl ?_)) <;> (first | exact DLeT.refl _ _ | (refine (DLe.p ?_).t _; (simp; done)) | skip)
                    · refine leHeap_cons rfl ?_ rfl rfl (leHeap_cons rfl ?_ rfl rfl (leHeap_cons rfl ?_ rfl rfl (leHeap_cons rfl ?_ rfl (stD_under _ _ _) (leHeap_cons rfl ?_ rfl (wrD_under _ hSl.1 hSl.2 (by omega)) (leHeap_cons rfl ?_ rfl rfl (leHeap_cons rfl ?_ rfl rfl (leHeap_cons rfl ?_ rfl rfl (leHeap_cons rfl ?_ rfl rfl (leHeap_cons rfl ?_ rfl rfl leHeap_nil)))))))))
                      all_goals first
                        | exact BLeT.refl _
                        | (rw [eo]; exact BLeT.refl _)
                      all_goals trace_state
                  · have h7 : ¬ (s.wr j)[q].tr = i := by simpa using h7
                    rw [if_neg h7] at eo
                    conv => whnf
                    refine wrapP_intro (wrap64 (by first | omega | (dsimp only; omega) | (simp only [List.length_map]; omega)) (by first | omega | (dsimp only; omega) | (simp only [List.length_map]; omega))) ?_
                    conv => whnf
                    refine hR2 _ _ _ (q + 1) h6 (by omega) ⟨rfl, by simp, ?_, ?_⟩
                    · (repeat' (first | exact leSlots_nil | refine leSlots_cons ?_ rfl ?_)) <;> (first | exact DLeT.refl _ _ | (refine (DLe.p ?_).t _; (simp; done)) | skip)
                    · refine leHeap_cons rfl ?_ rfl rfl (leHeap_cons rfl ?_ rfl rfl (leHeap_cons rfl ?_ rfl rfl (leHeap_cons rfl ?_ rfl (stD_under _ _ _) (leHeap_cons rfl ?_ rfl (wrD_under _ hSl.1 hSl.2 (by omega)) (leHeap_cons rfl ?_ rfl rfl (leHeap_cons rfl ?_ rfl rfl (leHeap_cons rfl ?_ rfl rfl (leHeap_cons rfl ?_ rfl rfl (leHeap_cons rfl ?_ rfl rfl leHeap_nil)))))))))
                      all_goals first
                        | exact BLeT.refl _
                        | (rw [eo]; exact BLeT.refl _)
                      all_goals trace_state
                · have h6 : q = (s.wr j).length := by simp at h6; omega
                  subst h6
                  rw [List.take_length]
                  clear hR2
                  conv => whnf
                  refine needP_intro (fun x hx => by simp at hx; subst hx; rfl) ?_
                  conv => whnf
                  refine needP_intro (⟨by simp, fun z hz => by simp at hz; rcases hz with ⟨a, _, rfl⟩ | hz <;> first | rfl | (subst hz; rfl) | (rcases hz with rfl | rfl <;> rfl), by simp; omega⟩) ?_
                  conv => whnf
                  refine wrapP_intro (wrap64 (by first | omega | (dsimp only; omega) | (simp only [List.length_map]; omega)) (by first | omega | (dsimp only; omega) | (simp only [List.length_map]; omega))) ?_
                  conv => whnf
                  refine hR _ _ _ (k + 1, (⟨(T3.n (s.wr j).length).2, set1 s.st i, s.wr, s.es ++ [bEv i] ++ [⟨1, i, j, (own i (s.wr j) ((s.wr j)[p].value, (s.wr j)[p].tr)).1, (own i (s.wr j) ((s.wr j)[p].value, (s.wr j)[p].tr)).2⟩]⟩ : MS)) ⟨h1, by rw [hstep, hact]⟩ (by dsimp only; omega) ⟨rfl, by simp, ?_, ?_⟩
                  · (repeat' (first | exact leSlots_nil | refine leSlots_cons ?_ rfl ?_)) <;> (first | exact DLeT.refl _ _ | (refine (DLe.p ?_).t _; (simp; done)) | skip)
                    · exact (DLe.eq (iSub (by dsimp only; omega))).t _
                  · refine leHeap_cons rfl ?_ rfl rfl (leHeap_cons rfl ?_ rfl rfl (leHeap_cons rfl ?_ rfl rfl (leHeap_cons rfl ?_ rfl (stD_under _ _ _) (leHeap_cons rfl ?_ rfl (wrD_under _ hSl.1 hSl.2 (by omega)) (leHeap_cons rfl ?_ rfl rfl (leHeap_cons rfl ?_ rfl rfl (leHeap_cons rfl ?_ rfl rfl (leHeap_cons rfl ?_ rfl rfl leHeap_nil)))))))) <;> (first | exact BLeT.refl _ | (refine BLeT.eq ?_; (simp; done)) | skip)
                    all_goals first
                      | (refine accEq ?_; simp [List.map_append]; done)
                      | (refine accEq ?_; simp [List.map_append]; rfl)
                      | (refine accEq ?_; simp [List.map_append]; exact ⟨rfl, rfl⟩)
                      | (refine tokEq ?_; simp [List.map_append]; done)
                      | exact stEq rfl
                      | exact stEq2 rfl
                      | (refine stEq2 ?_; funext x; by_cases hx : x = i <;> simp [MS.fin, MS.last, set1, hx]; done)
                      | (refine wrEq (e := wEv ((N : Int) - k) i j) ?_ ?_
                         · rfl
                         · funext x
                           simp only [MS.write]
                           split
                           · rename_i hx; rw [hx]
                           · rfl)
                      | skip
                    all_goals trace_state
            · have h5 : s.wr j = [] := by
                have : (s.wr j).length = 0 := by simp at h5; simp [h5]
                exact List.length_eq_zero_iff.1 this
              have hlk := look_nil (S := S) (j := j) (s := ⟨T3, set1 s.st i, s.wr, s.es ++ [bEv i]⟩) h5
              rw [MS.read, hlk] at hact
              conv => whnf
              refine needP_intro (⟨by omega, by omega⟩) ?_
              conv => whnf
              refine getD_intro (.acc (5 + j) ((s.wr j).map Ev.enc)) (by simpa using wrD_get s.wr hjm) ?_
              conv => whnf
              refine loop_fam (ι := Nat) (fun q => [(0, .ref 0 0), (2, .ref 1 0), (3, .ref 2 0), (4, i64 n), (5, .ms 3 1 0 n n), (6, .ms 4 1 0 S.length S.length), (7, i64 ((N : Int) - k)), (8, i64 i), (10, .ref 9 0), (111, .p (evs (s.wr j))), (112, i64 (s.wr j).length), (113, i64 q)])
                (fun q => [(0, Tape.blk (T3)), (1, .cells 27 [.nilsl, .nilsl]), (2, .cells 27 [.p (ints S), .acc 8 ((s.es ++ [bEv i]).map Ev.enc)]), (3, .cells 3 (stD (set1 s.st i) n)), (4, .cells 25 (wrD s.wr S.length)),
                  (5, .tok 58 5 (s.wr 0).length), (6, .tok 58 5 (s.wr 1).length), (7, .tok 58 5 (s.wr 2).length), (8, .tok 58 5 (s.es ++ [bEv i]).length),
                  (9, .cells 58 [i64 1, i64 i, i64 j, i64 (own i ((s.wr j).take q) (S.getD j 0, -1)).1, i64 (own i ((s.wr j).take q) (S.getD j 0, -1)).2])]) 10
                (fun q => q ≤ (s.wr j).length) (fun q => (s.wr j).length - q) 0 [] (Nat.zero_le _) ⟨rfl, by simp, ?_, ?_⟩ ?_
              · (repeat' (first | exact leSlots_nil | refine leSlots_cons ?_ rfl ?_)) <;> (first | exact DLeT.refl _ _ | (refine (DLe.p ?_).t _; (simp; done)) | skip)
                · exact (DLe.acc _ _).t _
              · refine leHeap_cons rfl ?_ rfl rfl (leHeap_cons rfl ?_ rfl rfl (leHeap_cons rfl ?_ rfl rfl (leHeap_cons rfl ?_ rfl (stD_under _ _ _) (leHeap_cons rfl ?_ rfl (wrD_under _ hSl.1 hSl.2 (by omega)) (leHeap_cons rfl ?_ rfl rfl (leHeap_cons rfl ?_ rfl rfl (leHeap_cons rfl ?_ rfl rfl (leHeap_cons rfl ?_ rfl rfl (leHeap_cons rfl ?_ rfl rfl leHeap_nil)))))))))
                all_goals first
                  | exact BLeT.refl _
                  | exact stEq rfl
                  | (refine accEq ?_; simp; done)
                  | (refine accEq ?_; simp; rfl)
                  | (refine tokEq ?_; simp; done)
                  | skip
                all_goals trace_state
              · rintro q hq R2 hR2
                conv => whnf
                refine condB_split (fun h6 => ?_) (fun h6 => ?_)
                · have h6 : q < (s.wr j).length := by simpa using h6
                  conv => whnf
                  refine getP_intro ((s.wr j)[q].enc) (by first | omega | (dsimp only; omega) | (simp only [List.length_map]; omega)) (by simpa using evs_get h6) ?_
                  conv => whnf
                  have eo := own_succ i (s.wr j) (S.getD j 0, -1) h6
                  refine condB_split (fun h7 => ?_) (fun h7 => ?_)
                  · have h7 : (s.wr j)[q].tr = i := by simpa using h7
                    rw [if_pos h7] at eo
                    conv => whnf
                    refine wrapP_intro (wrap64 (by first | omega | (dsimp only; omega) | (simp only [List.length_map]; omega)) (by first | omega | (dsimp only; omega) | (simp only [List.length_map]; omega))) ?_
                    conv => whnf
                    refine hR2 _ _ _ (q + 1) h6 (by omega) ⟨rfl, by simp, ?_, ?_⟩
                    · (repeat' (first | exact leSlots_nil | refine leSlots_cons ?_ rfl ?_)) <;> (first | exact DLeT.refl _ _ | (refine (DLe.p ?_).t _; (simp; done)) | skip)
                    · refine leHeap_cons rfl ?_ rfl rfl (leHeap_cons rfl ?_ rfl rfl (leHeap_cons rfl ?_ rfl rfl (leHeap_cons rfl ?_ rfl (stD_under _ _ _) (leHeap_cons rfl ?_ rfl (wrD_under _ hSl.1 hSl.2 (by omega)) (leHeap_cons rfl ?_ rfl rfl (leHeap_cons rfl ?_ rfl rfl (leHeap_cons rfl ?_ rfl rfl (leHeap_cons rfl ?_ rfl rfl (leHeap_cons rfl ?_ rfl rfl leHeap_nil)))))))))
                      all_goals first
                        | exact BLeT.refl _
                        | (rw [eo]; exact BLeT.refl _)
                      all_goals trace_state
                  · have h7 : ¬ (s.wr j)[q].tr = i := by simpa using h7
                    rw [if_neg h7] at eo
                    conv => whnf
                    refine wrapP_intro (wrap64 (by first | omega | (dsimp only; omega) | (simp only [List.length_map]; omega)) (by first | omega | (dsimp only; omega) | (simp only [List.length_map]; omega))) ?_
                    conv => whnf
                    refine hR2 _ _ _ (q + 1) h6 (by omega) ⟨rfl, by simp, ?_, ?_⟩
                    · (repeat' (first | exact leSlots_nil | refine leSlots_cons ?_ rfl ?_)) <;> (first | exact DLeT.refl _ _ | (refine (DLe.p ?_).t _; (simp; done)) | skip)
                    · refine leHeap_cons rfl ?_ rfl rfl (leHeap_cons rfl ?_ rfl rfl (leHeap_cons rfl ?_ rfl rfl (leHeap_cons rfl ?_ rfl (stD_under _ _ _) (leHeap_cons rfl ?_ rfl (wrD_under _ hSl.1 hSl.2 (by omega)) (leHeap_cons rfl ?_ rfl rfl (leHeap_cons rfl ?_ rfl rfl (leHeap_cons rfl ?_ rfl rfl (leHeap_cons rfl ?_ rfl rfl (leHeap_cons rfl ?_ rfl rfl leHeap_nil)))))))))
                      all_goals first
                        | exact BLeT.refl _
                        | (rw [eo]; exact BLeT.refl _)
                      all_goals trace_state
                · have h6 : q = (s.wr j).length := by simp at h6; omega
                  subst h6
                  rw [List.take_length]
                  clear hR2
                  conv => whnf
                  refine needP_intro (fun x hx => by simp at hx; subst hx; rfl) ?_
                  conv => whnf
                  refine needP_intro (⟨by simp, fun z hz => by simp at hz; rcases hz with ⟨a, _, rfl⟩ | hz <;> first | rfl | (subst hz; rfl) | (rcases hz with rfl | rfl <;> rfl), by simp; omega⟩) ?_
                  conv => whnf
                  refine wrapP_intro (wrap64 (by first | omega | (dsimp only; omega) | (simp only [List.length_map]; omega)) (by first | omega | (dsimp only; omega) | (simp only [List.length_map]; omega))) ?_
                  conv => whnf
                  refine hR _ _ _ (k + 1, (⟨T3, set1 s.st i, s.wr, s.es ++ [bEv i] ++ [⟨1, i, j, (own i (s.wr j) (S.getD j 0, -1)).1, (own i (s.wr j) (S.getD j 0, -1)).2⟩]⟩ : MS)) ⟨h1, by rw [hstep, hact]⟩ (by dsimp only; omega) ⟨rfl, by simp, ?_, ?_⟩
                  · (repeat' (first | exact leSlots_nil | refine leSlots_cons ?_ rfl ?_)) <;> (first | exact DLeT.refl _ _ | (refine (DLe.p ?_).t _; (simp; done)) | skip)
                    · exact (DLe.eq (iSub (by dsimp only; omega))).t _
                  · refine leHeap_cons rfl ?_ rfl rfl (leHeap_cons rfl ?_ rfl rfl (leHeap_cons rfl ?_ rfl rfl (leHeap_cons rfl ?_ rfl (stD_under _ _ _) (leHeap_cons rfl ?_ rfl (wrD_under _ hSl.1 hSl.2 (by omega)) (leHeap_cons rfl ?_ rfl rfl (leHeap_cons rfl ?_ rfl rfl (leHeap_cons rfl ?_ rfl rfl (leHeap_cons rfl ?_ rfl rfl leHeap_nil)))))))) <;> (first | exact BLeT.refl _ | (refine BLeT.eq ?_; (simp; done)) | skip)
                    all_goals first
                      | (refine accEq ?_; simp [List.map_append]; done)
                      | (refine accEq ?_; simp [List.map_append]; rfl)
                      | (refine accEq ?_; simp [List.map_append]; exact ⟨rfl, rfl⟩)
                      | (refine tokEq ?_; simp [List.map_append]; done)
                      | exact stEq rfl
                      | exact stEq2 rfl
                      | (refine stEq2 ?_; funext x; by_cases hx : x = i <;> simp [MS.fin, MS.last, set1, hx]; done)
                      | (refine wrEq (e := wEv ((N : Int) - k) i j) ?_ ?_
                         · rfl
                         · funext x
                           simp only [MS.write]
                           split
                           · rename_i hx; rw [hx]
                           · rfl)
                      | skip
                    all_goals trace_state
        · rw [if_neg (by omega), if_pos (by omega)] at hact
          have hw := hbd.wr j
          clear hj hT2 hn2 m2 hst
          rcases (show j = 0 ∨ j = 1 ∨ j = 2 by omega) with rfl | rfl | rfl
          · clear hc
            rcases (show c = 2 ∨ c = 3 ∨ c = 4 by omega) with rfl | rfl | rfl
            all_goals
              conv => whnf
              refine wrapP_intro (wrap64 (by first | omega | (dsimp only; omega) | (simp only [List.length_map]; omega)) (by first | omega | (dsimp only; omega) | (simp only [List.length_map]; omega))) ?_
              conv => whnf
              refine wrapP_intro (wrap64 (by first | omega | (dsimp only; omega) | (simp only [List.length_map]; omega)) (by first | omega | (dsimp only; omega) | (simp only [List.length_map]; omega))) ?_
              conv => whnf
              refine needP_intro (⟨by omega, by omega⟩) ?_
              conv => whnf
              refine getD_intro (.acc (5 + 0) ((s.wr 0).map Ev.enc)) (by simpa using wrD_get s.wr hjm) ?_
              conv => whnf
              refine needP_intro (fun x hx => by simp at hx; subst hx; rfl) ?_
              conv => whnf
              refine needP_intro (⟨by simp, fun z hz => by simp at hz; rcases hz with ⟨a, _, rfl⟩ | hz <;> first | rfl | (subst hz; rfl) | (rcases hz with rfl | rfl <;> rfl), by simp; omega⟩) ?_
              conv => whnf
              refine needP_intro (⟨by omega, by omega⟩) ?_
              conv => whnf
              refine needP_intro (by simp [wrD]; omega) ?_
              conv => whnf
              refine needP_intro (by kernel_rfl) ?_
              conv => whnf
              refine needP_intro (fun x hx => by simp at hx; subst hx; rfl) ?_
              conv => whnf
              refine needP_intro (⟨by simp, fun z hz => by simp at hz; rcases hz with ⟨a, _, rfl⟩ | hz <;> first | rfl | (subst hz; rfl) | (rcases hz with rfl | rfl <;> rfl), by simp; omega⟩) ?_
              conv => whnf
              refine wrapP_intro (wrap64 (by first | omega | (dsimp only; omega) | (simp only [List.length_map]; omega)) (by first | omega | (dsimp only; omega) | (simp only [List.length_map]; omega))) ?_
              conv => whnf
              refine hR _ _ _ (k + 1, MS.write ((N : Int) - k) i 0 ⟨T3, set1 s.st i, s.wr, s.es ++ [bEv i]⟩) ⟨h1, by rw [hstep, hact]⟩ (by dsimp only; omega) ⟨rfl, by simp, ?_, ?_⟩
              · (repeat' (first | exact leSlots_nil | refine leSlots_cons ?_ rfl ?_)) <;> (first | exact DLeT.refl _ _ | (refine (DLe.p ?_).t _; (simp; done)) | skip)
                · exact (DLe.eq (iSub (by dsimp only; omega))).t _
              · refine leHeap_cons rfl ?_ rfl rfl (leHeap_cons rfl ?_ rfl rfl (leHeap_cons rfl ?_ rfl rfl (leHeap_cons rfl ?_ rfl (stD_under _ _ _) (leHeap_cons rfl ?_ rfl (wrD_under _ hSl.1 hSl.2 (by omega)) (leHeap_cons rfl ?_ rfl rfl (leHeap_cons rfl ?_ rfl rfl (leHeap_cons rfl ?_ rfl rfl (leHeap_cons rfl ?_ rfl rfl leHeap_nil)))))))) <;> (first | exact BLeT.refl _ | (refine BLeT.eq ?_; (simp; done)) | skip)
                all_goals first
                  | (refine accEq ?_; simp [MS.write]; done)
                  | (refine accEq ?_; simp [MS.write]; rfl)
                  | (refine accEq ?_; simp [MS.write]; exact ⟨rfl, rfl⟩)
                  | (refine tokEq ?_; simp [MS.write]; done)
                  | exact stEq rfl
                  | exact stEq2 rfl
                  | (refine stEq2 ?_; funext x; by_cases hx : x = i <;> simp [MS.fin, MS.last, set1, hx]; done)
                  | (refine wrEq (e := wEv ((N : Int) - k) i 0) ?_ ?_
                     · rfl
                     · funext x
                       simp only [MS.write]
                       split
                       · rename_i hx; rw [hx]
                       · rfl)
                  | skip
                all_goals trace_state
          · clear hc
            rcases (show c = 2 ∨ c = 3 ∨ c = 4 by omega) with rfl | rfl | rfl
            all_goals
              conv => whnf
              refine wrapP_intro (wrap64 (by first | omega | (dsimp only; omega) | (simp only [List.length_map]; omega)) (by first | omega | (dsimp only; omega) | (simp only [List.length_map]; omega))) ?_
              conv => whnf
              refine wrapP_intro (wrap64 (by first | omega | (dsimp only; omega) | (simp only [List.length_map]; omega)) (by first | omega | (dsimp only; omega) | (simp only [List.length_map]; omega))) ?_
              conv => whnf
              refine needP_intro (⟨by omega, by omega⟩) ?_
              conv => whnf
              refine getD_intro (.acc (5 + 1) ((s.wr 1).map Ev.enc)) (by simpa using wrD_get s.wr hjm) ?_
              conv => whnf
              refine needP_intro (fun x hx => by simp at hx; subst hx; rfl) ?_
              conv => whnf
              refine needP_intro (⟨by simp, fun z hz => by simp at hz; rcases hz with ⟨a, _, rfl⟩ | hz <;> first | rfl | (subst hz; rfl) | (rcases hz with rfl | rfl <;> rfl), by simp; omega⟩) ?_
              conv => whnf
              refine needP_intro (⟨by omega, by omega⟩) ?_
              conv => whnf
              refine needP_intro (by simp [wrD]; omega) ?_
              conv => whnf
              refine needP_intro (by kernel_rfl) ?_
              conv => whnf
              refine needP_intro (fun x hx => by simp at hx; subst hx; rfl) ?_
              conv => whnf
              refine needP_intro (⟨by simp, fun z hz => by simp at hz; rcases hz with ⟨a, _, rfl⟩ | hz <;> first | rfl | (subst hz; rfl) | (rcases hz with rfl | rfl <;> rfl), by simp; omega⟩) ?_
              conv => whnf
              refine wrapP_intro (wrap64 (by first | omega | (dsimp only; omega) | (simp only [List.length_map]; omega)) (by first | omega | (dsimp only; omega) | (simp only [List.length_map]; omega))) ?_
              conv => whnf
              refine hR _ _ _ (k + 1, MS.write ((N : Int) - k) i 1 ⟨T3, set1 s.st i, s.wr, s.es ++ [bEv i]⟩) ⟨h1, by rw [hstep, hact]⟩ (by dsimp only; omega) ⟨rfl, by simp, ?_, ?_⟩
              · (repeat' (first | exact leSlots_nil | refine leSlots_cons ?_ rfl ?_)) <;> (first | exact DLeT.refl _ _ | (refine (DLe.p ?_).t _; (simp; done)) | skip)
                · exact (DLe.eq (iSub (by dsimp only; omega))).t _
              · refine leHeap_cons rfl ?_ rfl rfl (leHeap_cons rfl ?_ rfl rfl (leHeap_cons rfl ?_ rfl rfl (leHeap_cons rfl ?_ rfl (stD_under _ _ _) (leHeap_cons rfl ?_ rfl (wrD_under _ hSl.1 hSl.2 (by omega)) (leHeap_cons rfl ?_ rfl rfl (leHeap_cons rfl ?_ rfl rfl (leHeap_cons rfl ?_ rfl rfl (leHeap_cons rfl ?_ rfl rfl leHeap_nil)))))))) <;> (first | exact BLeT.refl _ | (refine BLeT.eq ?_; (simp; done)) | skip)
                all_goals first
                  | (refine accEq ?_; simp [MS.write]; done)
                  | (refine accEq ?_; simp [MS.write]; rfl)
                  | (refine accEq ?_; simp [MS.write]; exact ⟨rfl, rfl⟩)
                  | (refine tokEq ?_; simp [MS.write]; done)
                  | exact stEq rfl
                  | exact stEq2 rfl
                  | (refine stEq2 ?_; funext x; by_cases hx : x = i <;> simp [MS.fin, MS.last, set1, hx]; done)
                  | (refine wrEq (e := wEv ((N : Int) - k) i 1) ?_ ?_
                     · rfl
                     · funext x
                       simp only [MS.write]
                       split
                       · rename_i hx; rw [hx]
                       · rfl)
                  | skip
                all_goals trace_state
          · clear hc
            rcases (show c = 2 ∨ c = 3 ∨ c = 4 by omega) with rfl | rfl | rfl
            all_goals
              conv => whnf
              refine wrapP_intro (wrap64 (by first | omega | (dsimp only; omega) | (simp only [List.length_map]; omega)) (by first | omega | (dsimp only; omega) | (simp only [List.length_map]; omega))) ?_
              conv => whnf
              refine wrapP_intro (wrap64 (by first | omega | (dsimp only; omega) | (simp only [List.length_map]; omega)) (by first | omega | (dsimp only; omega) | (simp only [List.length_map]; omega))) ?_
              conv => whnf
              refine needP_intro (⟨by omega, by omega⟩) ?_
              conv => whnf
              refine getD_intro (.acc (5 + 2) ((s.wr 2).map Ev.enc)) (by simpa using wrD_get s.wr hjm) ?_
              conv => whnf
              refine needP_intro (fun x hx => by simp at hx; subst hx; rfl) ?_
              conv => whnf
              refine needP_intro (⟨by simp, fun z hz => by simp at hz; rcases hz with ⟨a, _, rfl⟩ | hz <;> first | rfl | (subst hz; rfl) | (rcases hz with rfl | rfl <;> rfl), by simp; omega⟩) ?_
              conv => whnf
              refine needP_intro (⟨by omega, by omega⟩) ?_
              conv => whnf
              refine needP_intro (by simp [wrD]; omega) ?_
              conv => whnf
              refine needP_intro (by kernel_rfl) ?_
              conv => whnf
              refine needP_intro (fun x hx => by simp at hx; subst hx; rfl) ?_
              conv => whnf
              refine needP_intro (⟨by simp, fun z hz => by simp at hz; rcases hz with ⟨a, _, rfl⟩ | hz <;> first | rfl | (subst hz; rfl) | (rcases hz with rfl | rfl <;> rfl), by simp; omega⟩) ?_
              conv => whnf
              refine wrapP_intro (wrap64 (by first | omega | (dsimp only; omega) | (simp only [List.length_map]; omega)) (by first | omega | (dsimp only; omega) | (simp only [List.length_map]; omega))) ?_
              conv => whnf
              refine hR _ _ _ (k + 1, MS.write ((N : Int) - k) i 2 ⟨T3, set1 s.st i, s.wr, s.es ++ [bEv i]⟩) ⟨h1, by rw [hstep, hact]⟩ (by dsimp only; omega) ⟨rfl, by simp, ?_, ?_⟩
              · (repeat' (first | exact leSlots_nil | refine leSlots_cons ?_ rfl ?_)) <;> (first | exact DLeT.refl _ _ | (refine (DLe.p ?_).t _; (simp; done)) | skip)
                · exact (DLe.eq (iSub (by dsimp only; omega))).t _
              · refine leHeap_cons rfl ?_ rfl rfl (leHeap_cons rfl ?_ rfl rfl (leHeap_cons rfl ?_ rfl rfl (leHeap_cons rfl ?_ rfl (stD_under _ _ _) (leHeap_cons rfl ?_ rfl (wrD_under _ hSl.1 hSl.2 (by omega)) (leHeap_cons rfl ?_ rfl rfl (leHeap_cons rfl ?_ rfl rfl (leHeap_cons rfl ?_ rfl rfl (leHeap_cons rfl ?_ rfl rfl leHeap_nil)))))))) <;> (first | exact BLeT.refl _ | (refine BLeT.eq ?_; (simp; done)) | skip)
                all_goals first
                  | (refine accEq ?_; simp [MS.write]; done)
                  | (refine accEq ?_; simp [MS.write]; rfl)
                  | (refine accEq ?_; simp [MS.write]; exact ⟨rfl, rfl⟩)
                  | (refine tokEq ?_; simp [MS.write]; done)
                  | exact stEq rfl
                  | exact stEq2 rfl
                  | (refine stEq2 ?_; funext x; by_cases hx : x = i <;> simp [MS.fin, MS.last, set1, hx]; done)
                  | (refine wrEq (e := wEv ((N : Int) - k) i 2) ?_ ?_
                     · rfl
                     · funext x
                       simp only [MS.write]
                       split
                       · rename_i hx; rw [hx]
                       · rfl)
                  | skip
                all_goals trace_state
        · subst hc1
          rw [if_neg (by omega), if_neg (by omega)] at hact
          conv => whnf
          refine needP_intro (⟨by omega, by omega⟩) ?_
          conv => whnf
          refine needP_intro (by simp [stD]; omega) ?_
          conv => whnf
          refine needP_intro (fun x hx => by simp at hx; rcases hx with rfl | rfl | rfl <;> rfl) ?_
          conv => whnf
          refine (pick_ac T3 hto3 [3, 3, 4] (by simp) (by simp)).call [0] rfl ⟨DLe.refl _, (DLe.full _).trans (DLe.p rfl), trivial⟩ (ldHeap_cons rfl (BLe.refl _) rfl ldHeap_nil) ?_
          conv => whnf
          refine needP_intro (fun x hx => by simp at hx; subst hx; rfl) ?_
          conv => whnf
          refine needP_intro (⟨by simp, fun z hz => by simp at hz; rcases hz with ⟨a, _, rfl⟩ | hz <;> first | rfl | (subst hz; rfl) | (rcases hz with rfl | rfl <;> rfl), by simp; omega⟩) ?_
          conv => whnf
          refine needP_intro (by kernel_rfl) ?_
          conv => whnf
          refine wrapP_intro (wrap64 (by first | omega | (dsimp only; omega) | (simp only [List.length_map]; omega)) (by first | omega | (dsimp only; omega) | (simp only [List.length_map]; omega))) ?_
          conv => whnf
          refine hR _ _ _ (k + 1, MS.fin i ⟨T3, set1 s.st i, s.wr, s.es ++ [bEv i]⟩) ⟨h1, by rw [hstep, hact]⟩ (by dsimp only; omega) ⟨rfl, by simp, ?_, ?_⟩
          · (repeat' (first | exact leSlots_nil | refine leSlots_cons ?_ rfl ?_)) <;> (first | exact DLeT.refl _ _ | (refine (DLe.p ?_).t _; (simp; done)) | skip)
            · exact (DLe.eq (iSub (by dsimp only; omega))).t _
          · refine leHeap_cons rfl ?_ rfl rfl (leHeap_cons rfl ?_ rfl rfl (leHeap_cons rfl ?_ rfl rfl (leHeap_cons rfl ?_ rfl (stD_under _ _ _) (leHeap_cons rfl ?_ rfl (wrD_under _ hSl.1 hSl.2 (by omega)) (leHeap_cons rfl ?_ rfl rfl (leHeap_cons rfl ?_ rfl rfl (leHeap_cons rfl ?_ rfl rfl (leHeap_cons rfl ?_ rfl rfl leHeap_nil)))))))) <;> (first | exact BLeT.refl _ | (refine BLeT.eq ?_; (simp; done)) | skip)
            all_goals first
              | (refine accEq ?_; simp [MS.fin, MS.last]; done)
              | (refine accEq ?_; simp [MS.fin, MS.last]; rfl)
              | (refine accEq ?_; simp [MS.fin, MS.last]; exact ⟨rfl, rfl⟩)
              | (refine tokEq ?_; simp [MS.fin, MS.last]; done)
              | exact stEq rfl
              | exact stEq2 rfl
              | (refine stEq2 ?_; funext x; by_cases hx : x = i <;> simp [MS.fin, MS.last, set1, hx]; done)
              | (refine wrEq (e := wEv ((N : Int) - k) i j) ?_ ?_
                 · rfl
                 · funext x
                   simp only [MS.write]
                   split
                   · rename_i hx; rw [hx]
                   · rfl)
              | skip
            all_goals trace_state
      · have h3 : ¬ s.st i = 0 := by simpa using h3
        rw [MS.beg, if_neg (by exact h3)] at hst
        conv => whnf
        refine hn3.call [0] rfl ⟨DLe.refl _, DLe.refl _, trivial⟩ (ldHeap_cons rfl (BLe.refl _) rfl ldHeap_nil) ?_
        conv => whnf
        have hact : s.step S n ((N : Int) - k) = (if c ≤ 1 then MS.read S i j ⟨T3, s.st, s.wr, s.es⟩ else if c ≤ 4 then MS.write ((N : Int) - k) i j ⟨T3, s.st, s.wr, s.es⟩ else MS.fin i ⟨T3, s.st, s.wr, s.es⟩) := by
          rw [hst, MS.act]
          dsimp only
          rw [hc, hT3]
          norm_cast
        have hcc : c ≤ 1 ∨ (2 ≤ c ∧ c ≤ 4) ∨ c = 5 := by omega
        rcases hcc with hc1 | ⟨hc1, hc2⟩ | hc1
        · rw [if_pos hc1] at hact
          clear hc
          rcases (show c = 0 ∨ c = 1 by omega) with rfl | rfl
          all_goals
            conv => whnf
            have hwl := hbd.wr j
            have hSj : (S.map (Pd.int .i64))[j]? = some (.int .i64 (S.getD j 0)) := by
              rw [List.getElem?_map, List.getElem?_eq_getElem hjm, List.getD_eq_getElem?_getD, List.getElem?_eq_getElem hjm]; rfl
            refine getP_intro (.int .i64 (S.getD j 0)) (by first | omega | (dsimp only; omega) | (simp only [List.length_map]; omega)) (by simpa using hSj) ?_
            conv => whnf
            refine needP_intro (⟨by omega, by omega⟩) ?_
            conv => whnf
            refine getD_intro (.acc (5 + j) ((s.wr j).map Ev.enc)) (by simpa using wrD_get s.wr hjm) ?_
            conv => whnf
            refine condB_split (fun h5 => ?_) (fun h5 => ?_)
            · have h5 : 0 < (s.wr j).length := by simpa using h5
              have m5 := modG_lt T3.raw.1 (show (1 : Int) ≤ (s.wr j).length by omega)
              have hn5 := n_ac T3 hto3 (s.wr j).length (by omega)
              have hto5 := Tape.n_ok hto3 (s.wr j).length
              obtain ⟨p, hp⟩ : ∃ p : Nat, (T3.n (s.wr j).length).1 = p := ⟨(T3.n (s.wr j).length).1.toNat, by have : 0 ≤ (T3.n (s.wr j).length).1 := m5.1; omega⟩
              have hpl : p < (s.wr j).length := by have : (T3.n (s.wr j).length).1 < (s.wr j).length := m5.2; omega
              have hlk := look_cons (S := S) (s := ⟨T3, s.st, s.wr, s.es⟩) (s.wr j) rfl hpl hp
              rw [MS.read, hlk] at hact
              rw [hp] at hn5
              conv => whnf
              refine hn5.call [0] rfl ⟨DLe.refl _, DLe.eq ?_, trivial⟩ (ldHeap_cons rfl (BLe.refl _) rfl ldHeap_nil) ?_
              · simp; rfl
              conv => whnf
              refine getP_intro ((s.wr j)[p].enc) (by first | omega | (dsimp only; omega) | (simp only [List.length_map]; omega)) (by simpa using evs_get hpl) ?_
              conv => whnf
              refine needP_intro (by kernel_rfl) ?_
              conv => whnf
              refine needP_intro (⟨by omega, by omega⟩) ?_
              conv => whnf
              refine getD_intro (.acc (5 + j) ((s.wr j).map Ev.enc)) (by simpa using wrD_get s.wr hjm) ?_
              conv => whnf
              refine loop_fam (ι := Nat) (fun q => [(0, .ref 0 0), (2, .ref 1 0), (3, .ref 2 0), (4, i64 n), (5, .ms 3 1 0 n n), (6, .ms 4 1 0 S.length S.length), (7, i64 ((N : Int) - k)), (8, i64 i), (10, .ref 9 0), (111, .p (evs (s.wr j))), (112, i64 (s.wr j).length), (113, i64 q)])
                (fun q => [(0, Tape.blk ((T3.n (s.wr j).length).2)), (1, .cells 27 [.nilsl, .nilsl]), (2, .cells 27 [.p (ints S), .acc 8 ((s.es).map Ev.enc)]), (3, .cells 3 (stD (s.st) n)), (4, .cells 25 (wrD s.wr S.length)),
                  (5, .tok 58 5 (s.wr 0).length), (6, .tok 58 5 (s.wr 1).length), (7, .tok 58 5 (s.wr 2).length), (8, .tok 58 5 (s.es).length),
                  (9, .cells 58 [i64 1, i64 i, i64 j, i64 (own i ((s.wr j).take q) ((s.wr j)[p].value, (s.wr j)[p].tr)).1, i64 (own i ((s.wr j).take q) ((s.wr j)[p].value, (s.wr j)[p].tr)).2])]) 10
                (fun q => q ≤ (s.wr j).length) (fun q => (s.wr j).length - q) 0 [] (Nat.zero_le _) ⟨rfl, by simp, ?_, ?_⟩ ?_
              · (repeat' (first | exact leSlots_nil | refine leSlots_cons ?_ rfl ?_)) <;> (first | exact DLeT.refl _ _ | (refine (DLe.p ?_).t _; (simp; done)) | skip)
                · exact (DLe.acc _ _).t _
              · refine leHeap_cons rfl ?_ rfl rfl (leHeap_cons rfl ?_ rfl rfl (leHeap_cons rfl ?_ rfl rfl (leHeap_cons rfl ?_ rfl (stD_under _ _ _) (leHeap_cons rfl ?_ rfl (wrD_under _ hSl.1 hSl.2 (by omega)) (leHeap_cons rfl ?_ rfl rfl (leHeap_cons rfl ?_ rfl rfl (leHeap_cons rfl ?_ rfl rfl (leHeap_cons rfl ?_ rfl rfl (leHeap_cons rfl ?_ rfl rfl leHeap_nil)))))))))
                all_goals first
                  | exact BLeT.refl _
                  | exact stEq rfl
                  | (refine accEq ?_; simp; done)
                  | (refine accEq ?_; simp; rfl)
                  | (refine tokEq ?_; simp; done)
                  | skip
                all_goals trace_state
              · rintro q hq R2 hR2
                conv => whnf
                refine condB_split (fun h6 => ?_) (fun h6 => ?_)
                · have h6 : q < (s.wr j).length := by simpa using h6
                  conv => whnf
                  refine getP_intro ((s.wr j)[q].enc) (by first | omega | (dsimp only; omega) | (simp only [List.length_map]; omega)) (by simpa using evs_get h6) ?_
                  conv => whnf
                  have eo := own_succ i (s.wr j) ((s.wr j)[p].value, (s.wr j)[p].tr) h6
                  refine condB_split (fun h7 => ?_) (fun h7 => ?_)
                  · have h7 : (s.wr j)[q].tr = i := by simpa using h7
                    rw [if_pos h7] at eo
                    conv => whnf
                    refine wrapP_intro (wrap64 (by first | omega | (dsimp only; omega) | (simp only [List.length_map]; omega)) (by first | omega | (dsimp only; omega) | (simp only [List.length_map]; omega))) ?_
                    conv => whnf
                    refine hR2 _ _ _ (q + 1) h6 (by omega) ⟨rfl, by simp, ?_, ?_⟩
                    · (repeat' (first | exact leSlots_nil | refine leSlots_cons ?_ rfl ?_)) <;> (first | exact DLeT.refl _ _ | (refine (DLe.p ?_).t _; (simp; done)) | skip)
                    · refine leHeap_cons rfl ?_ rfl rfl (leHeap_cons rfl ?_ rfl rfl (leHeap_cons rfl ?_ rfl rfl (leHeap_cons rfl ?_ rfl (stD_under _ _ _) (leHeap_cons rfl ?_ rfl (wrD_under _ hSl.1 hSl.2 (by omega)) (leHeap_cons rfl ?_ rfl rfl (leHeap_cons rfl ?_ rfl rfl (leHeap_cons rfl ?_ rfl rfl (leHeap_cons rfl ?_ rfl rfl (leHeap_cons rfl ?_ rfl rfl leHeap_nil)))))))))
                      all_goals first
                        | exact BLeT.refl _
                        | (rw [eo]; exact BLeT.refl _)
                      all_goals trace_state
                  · have h7 : ¬ (s.wr j)[q].tr = i := by simpa using h7
                    rw [if_neg h7] at eo
                    conv => whnf
                    refine wrapP_intro (wrap64 (by first | omega | (dsimp only; omega) | (simp only [List.length_map]; omega)) (by first | omega | (dsimp only; omega) | (simp only [List.length_map]; omega))) ?_
                    conv => whnf
                    refine hR2 _ _ _ (q + 1) h6 (by omega) ⟨rfl, by simp, ?_, ?_⟩
                    · (repeat' (first | exact leSlots_nil | refine leSlots_cons ?_ rfl ?_)) <;> (first | exact DLeT.refl _ _ | (refine (DLe.p ?_).t _; (simp; done)) | skip)
                    · refine leHeap_cons rfl ?_ rfl rfl (leHeap_cons rfl ?_ rfl rfl (leHeap_cons rfl ?_ rfl rfl (leHeap_cons rfl ?_ rfl (stD_under _ _ _) (leHeap_cons rfl ?_ rfl (wrD_under _ hSl.1 hSl.2 (by omega)) (leHeap_cons rfl ?_ rfl rfl (leHeap_cons rfl ?_ rfl rfl (leHeap_cons rfl ?_ rfl rfl (leHeap_cons rfl ?_ rfl rfl (leHeap_cons rfl ?_ rfl rfl leHeap_nil)))))))))
                      all_goals first
                        | exact BLeT.refl _
                        | (rw [eo]; exact BLeT.refl _)
                      all_goals trace_state
                · have h6 : q = (s.wr j).length := by simp at h6; omega
                  subst h6
                  rw [List.take_length]
                  clear hR2
                  conv => whnf
                  refine needP_intro (fun x hx => by simp at hx; subst hx; rfl) ?_
                  conv => whnf
                  refine needP_intro (⟨by simp, fun z hz => by simp at hz; rcases hz with ⟨a, _, rfl⟩ | hz <;> first | rfl | (subst hz; rfl) | (rcases hz with rfl | rfl <;> rfl), by simp; omega⟩) ?_
                  conv => whnf
                  refine wrapP_intro (wrap64 (by first | omega | (dsimp only; omega) | (simp only [List.length_map]; omega)) (by first | omega | (dsimp only; omega) | (simp only [List.length_map]; omega))) ?_
                  conv => whnf
                  refine hR _ _ _ (k + 1, (⟨(T3.n (s.wr j).length).2, s.st, s.wr, s.es ++ [⟨1, i, j, (own i (s.wr j) ((s.wr j)[p].value, (s.wr j)[p].tr)).1, (own i (s.wr j) ((s.wr j)[p].value, (s.wr j)[p].tr)).2⟩]⟩ : MS)) ⟨h1, by rw [hstep, hact]⟩ (by dsimp only; omega) ⟨rfl, by simp, ?_, ?_⟩
                  · (repeat' (first | exact leSlots_nil | refine leSlots_cons ?_ rfl ?_)) <;> (first | exact DLeT.refl _ _ | (refine (DLe.p ?_).t _; (simp; done)) | skip)
                    · exact (DLe.eq (iSub (by dsimp only; omega))).t _
                  · refine leHeap_cons rfl ?_ rfl rfl (leHeap_cons rfl ?_ rfl rfl (leHeap_cons rfl ?_ rfl rfl (leHeap_cons rfl ?_ rfl (stD_under _ _ _) (leHeap_cons rfl ?_ rfl (wrD_under _ hSl.1 hSl.2 (by omega)) (leHeap_cons rfl ?_ rfl rfl (leHeap_cons rfl ?_ rfl rfl (leHeap_cons rfl ?_ rfl rfl (leHeap_cons rfl ?_ rfl rfl leHeap_nil)))))))) <;> (first | exact BLeT.refl _ | (refine BLeT.eq ?_; (simp; done)) | skip)
                    all_goals first
                      | (refine accEq ?_; simp [List.map_append]; done)
                      | (refine accEq ?_; simp [List.map_append]; rfl)
                      | (refine accEq ?_; simp [List.map_append]; exact ⟨rfl, rfl⟩)
                      | (refine tokEq ?_; simp [List.map_append]; done)
                      | exact stEq rfl
                      | exact stEq2 rfl
                      | (refine stEq2 ?_; funext x; by_cases hx : x = i <;> simp [MS.fin, MS.last, set1, hx]; done)
                      | (refine wrEq (e := wEv ((N : Int) - k) i j) ?_ ?_
                         · rfl
                         · funext x
                           simp only [MS.write]
                           split
                           · rename_i hx; rw [hx]
                           · rfl)
                      | skip
                    all_goals trace_state
            · have h5 : s.wr j = [] := by
                have : (s.wr j).length = 0 := by simp at h5; simp [h5]
                exact List.length_eq_zero_iff.1 this
              have hlk := look_nil (S := S) (j := j) (s := ⟨T3, s.st, s.wr, s.es⟩) h5
              rw [MS.read, hlk] at hact
              conv => whnf
              refine needP_intro (⟨by omega, by omega⟩) ?_
              conv => whnf
              refine getD_intro (.acc (5 + j) ((s.wr j).map Ev.enc)) (by simpa using wrD_get s.wr hjm) ?_
              conv => whnf
              refine loop_fam (ι := Nat) (fun q => [(0, .ref 0 0), (2, .ref 1 0), (3, .ref 2 0), (4, i64 n), (5, .ms 3 1 0 n n), (6, .ms 4 1 0 S.length S.length), (7, i64 ((N : Int) - k)), (8, i64 i), (10, .ref 9 0), (111, .p (evs (s.wr j))), (112, i64 (s.wr j).length), (113, i64 q)])
                (fun q => [(0, Tape.blk (T3)), (1, .cells 27 [.nilsl, .nilsl]), (2, .cells 27 [.p (ints S), .acc 8 ((s.es).map Ev.enc)]), (3, .cells 3 (stD (s.st) n)), (4, .cells 25 (wrD s.wr S.length)),
                  (5, .tok 58 5 (s.wr 0).length), (6, .tok 58 5 (s.wr 1).length), (7, .tok 58 5 (s.wr 2).length), (8, .tok 58 5 (s.es).length),
                  (9, .cells 58 [i64 1, i64 i, i64 j, i64 (own i ((s.wr j).take q) (S.getD j 0, -1)).1, i64 (own i ((s.wr j).take q) (S.getD j 0, -1)).2])]) 10
                (fun q => q ≤ (s.wr j).length) (fun q => (s.wr j).length - q) 0 [] (Nat.zero_le _) ⟨rfl, by simp, ?_, ?_⟩ ?_
              · (repeat' (first | exact leSlots_nil | refine leSlots_cons ?_ rfl ?_)) <;> (first | exact DLeT.refl _ _ | (refine (DLe.p ?_).t _; (simp; done)) | skip)
                · exact (DLe.acc _ _).t _
              · refine leHeap_cons rfl ?_ rfl rfl (leHeap_cons rfl ?_ rfl rfl (leHeap_cons rfl ?_ rfl rfl (leHeap_cons rfl ?_ rfl (stD_under _ _ _) (leHeap_cons rfl ?_ rfl (wrD_under _ hSl.1 hSl.2 (by omega)) (leHeap_cons rfl ?_ rfl rfl (leHeap_cons rfl ?_ rfl rfl (leHeap_cons rfl ?_ rfl rfl (leHeap_cons rfl ?_ rfl rfl (leHeap_cons rfl ?_ rfl rfl leHeap_nil)))))))))
                all_goals first
                  | exact BLeT.refl _
                  | exact stEq rfl
                  | (refine accEq ?_; simp; done)
                  | (refine accEq ?_; simp; rfl)
                  | (refine tokEq ?_; simp; done)
                  | skip
                all_goals trace_state
              · rintro q hq R2 hR2
                conv => whnf
                refine condB_split (fun h6 => ?_) (fun h6 => ?_)
                · have h6 : q < (s.wr j).length := by simpa using h6
                  conv => whnf
                  refine getP_intro ((s.wr j)[q].enc) (by first | omega | (dsimp only; omega) | (simp only [List.length_map]; omega)) (by simpa using evs_get h6) ?_
                  conv => whnf
                  have eo := own_succ i (s.wr j) (S.getD j 0, -1) h6
                  refine condB_split (fun h7 => ?_) (fun h7 => ?_)
                  · have h7 : (s.wr j)[q].tr = i := by simpa using h7
                    rw [if_pos h7] at eo
                    conv => whnf
                    refine wrapP_intro (wrap64 (by first | omega | (dsimp only; omega) | (simp only [List.length_map]; omega)) (by first | omega | (dsimp only; omega) | (simp only [List.length_map]; omega))) ?_
                    conv => whnf
                    refine hR2 _ _ _ (q + 1) h6 (by omega) ⟨rfl, by simp, ?_, ?_⟩
                    · (repeat' (first | exact leSlots_nil | refine leSlots_cons ?_ rfl ?_)) <;> (first | exact DLeT.refl _ _ | (refine (DLe.p ?_).t _; (simp; done)) | skip)
                    · refine leHeap_cons rfl ?_ rfl rfl (leHeap_cons rfl ?_ rfl rfl (leHeap_cons rfl ?_ rfl rfl (leHeap_cons rfl ?_ rfl (stD_under _ _ _) (leHeap_cons rfl ?_ rfl (wrD_under _ hSl.1 hSl.2 (by omega)) (leHeap_cons rfl ?_ rfl rfl (leHeap_cons rfl ?_ rfl rfl (leHeap_cons rfl ?_ rfl rfl (leHeap_cons rfl ?_ rfl rfl (leHeap_cons rfl ?_ rfl rfl leHeap_nil)))))))))
                      all_goals first
                        | exact BLeT.refl _
                        | (rw [eo]; exact BLeT.refl _)
                      all_goals trace_state
                  · have h7 : ¬ (s.wr j)[q].tr = i := by simpa using h7
                    rw [if_neg h7] at eo
                    conv => whnf
                    refine wrapP_intro (wrap64 (by first | omega | (dsimp only; omega) | (simp only [List.length_map]; omega)) (by first | omega | (dsimp only; omega) | (simp only [List.length_map]; omega))) ?_
                    conv => whnf
                    refine hR2 _ _ _ (q + 1) h6 (by omega) ⟨rfl, by simp, ?_, ?_⟩
                    · (repeat' (first | exact leSlots_nil | refine leSlots_cons ?_ rfl ?_)) <;> (first | exact DLeT.refl _ _ | (refine (DLe.p ?_).t _; (simp; done)) | skip)
                    · refine leHeap_cons rfl ?_ rfl rfl (leHeap_cons rfl ?_ rfl rfl (leHeap_cons rfl ?_ rfl rfl (leHeap_cons rfl ?_ rfl (stD_under _ _ _) (leHeap_cons rfl ?_ rfl (wrD_under _ hSl.1 hSl.2 (by omega)) (leHeap_cons rfl ?_ rfl rfl (leHeap_cons rfl ?_ rfl rfl (leHeap_cons rfl ?_ rfl rfl (leHeap_cons rfl ?_ rfl rfl (leHeap_cons rfl ?_ rfl rfl leHeap_nil)))))))))
                      all_goals first
                        | exact BLeT.refl _
                        | (rw [eo]; exact BLeT.refl _)
                      all_goals trace_state
                · have h6 : q = (s.wr j).length := by simp at h6; omega
                  subst h6
                  rw [List.take_length]
                  clear hR2
                  conv => whnf
                  refine needP_intro (fun x hx => by simp at hx; subst hx; rfl) ?_
                  conv => whnf
                  refine needP_intro (⟨by simp, fun z hz => by simp at hz; rcases hz with ⟨a, _, rfl⟩ | hz <;> first | rfl | (subst hz; rfl) | (rcases hz with rfl | rfl <;> rfl), by simp; omega⟩) ?_
                  conv => whnf
                  refine wrapP_intro (wrap64 (by first | omega | (dsimp only; omega) | (simp only [List.length_map]; omega)) (by first | omega | (dsimp only; omega) | (simp only [List.length_map]; omega))) ?_
                  conv => whnf
                  refine hR _ _ _ (k + 1, (⟨T3, s.st, s.wr, s.es ++ [⟨1, i, j, (own i (s.wr j) (S.getD j 0, -1)).1, (own i (s.wr j) (S.getD j 0, -1)).2⟩]⟩ : MS)) ⟨h1, by rw [hstep, hact]⟩ (by dsimp only; omega) ⟨rfl, by simp, ?_, ?_⟩
                  · (repeat' (first | exact leSlots_nil | refine leSlots_cons ?_ rfl ?_)) <;> (first | exact DLeT.refl _ _ | (refine (DLe.p ?_).t _; (simp; done)) | skip)
                    · exact (DLe.eq (iSub (by dsimp only; omega))).t _
                  · refine leHeap_cons rfl ?_ rfl rfl (leHeap_cons rfl ?_ rfl rfl (leHeap_cons rfl ?_ rfl rfl (leHeap_cons rfl ?_ rfl (stD_under _ _ _) (leHeap_cons rfl ?_ rfl (wrD_under _ hSl.1 hSl.2 (by omega)) (leHeap_cons rfl ?_ rfl rfl (leHeap_cons rfl ?_ rfl rfl (leHeap_cons rfl ?_ rfl rfl (leHeap_cons rfl ?_ rfl rfl leHeap_nil)))))))) <;> (first | exact BLeT.refl _ | (refine BLeT.eq ?_; (simp; done)) | skip)
                    all_goals first
                      | (refine accEq ?_; simp [List.map_append]; done)
                      | (refine accEq ?_; simp [List.map_append]; rfl)
                      | (refine accEq ?_; simp [List.map_append]; exact ⟨rfl, rfl⟩)
                      | (refine tokEq ?_; simp [List.map_append]; done)
                      | exact stEq rfl
                      | exact stEq2 rfl
                      | (refine stEq2 ?_; funext x; by_cases hx : x = i <;> simp [MS.fin, MS.last, set1, hx]; done)
                      | (refine wrEq (e := wEv ((N : Int) - k) i j) ?_ ?_
                         · rfl
                         · funext x
                           simp only [MS.write]
                           split
                           · rename_i hx; rw [hx]
                           · rfl)
                      | skip
                    all_goals trace_state
        · rw [if_neg (by omega), if_pos (by omega)] at hact
          have hw := hbd.wr j
          clear hj hT2 hn2 m2 hst
          rcases (show j = 0 ∨ j = 1 ∨ j = 2 by omega) with rfl | rfl | rfl
          · clear hc
            rcases (show c = 2 ∨ c = 3 ∨ c = 4 by omega) with rfl | rfl | rfl
            all_goals
              conv => whnf
              refine wrapP_intro (wrap64 (by first | omega | (dsimp only; omega) | (simp only [List.length_map]; omega)) (by first | omega | (dsimp only; omega) | (simp only [List.length_map]; omega))) ?_
              conv => whnf
              refine wrapP_intro (wrap64 (by first | omega | (dsimp only; omega) | (simp only [List.length_map]; omega)) (by first | omega | (dsimp only; omega) | (simp only [List.length_map]; omega))) ?_
              conv => whnf
              refine needP_intro (⟨by omega, by omega⟩) ?_
              conv => whnf
              refine getD_intro (.acc (5 + 0) ((s.wr 0).map Ev.enc)) (by simpa using wrD_get s.wr hjm) ?_
              conv => whnf
              refine needP_intro (fun x hx => by simp at hx; subst hx; rfl) ?_
              conv => whnf
              refine needP_intro (⟨by simp, fun z hz => by simp at hz; rcases hz with ⟨a, _, rfl⟩ | hz <;> first | rfl | (subst hz; rfl) | (rcases hz with rfl | rfl <;> rfl), by simp; omega⟩) ?_
              conv => whnf
              refine needP_intro (⟨by omega, by omega⟩) ?_
              conv => whnf
              refine needP_intro (by simp [wrD]; omega) ?_
              conv => whnf
              refine needP_intro (by kernel_rfl) ?_
              conv => whnf
              refine needP_intro (fun x hx => by simp at hx; subst hx; rfl) ?_
              conv => whnf
              refine needP_intro (⟨by simp, fun z hz => by simp at hz; rcases hz with ⟨a, _, rfl⟩ | hz <;> first | rfl | (subst hz; rfl) | (rcases hz with rfl | rfl <;> rfl), by simp; omega⟩) ?_
              conv => whnf
              refine wrapP_intro (wrap64 (by first | omega | (dsimp only; omega) | (simp only [List.length_map]; omega)) (by first | omega | (dsimp only; omega) | (simp only [List.length_map]; omega))) ?_
              conv => whnf
              refine hR _ _ _ (k + 1, MS.write ((N : Int) - k) i 0 ⟨T3, s.st, s.wr, s.es⟩) ⟨h1, by rw [hstep, hact]⟩ (by dsimp only; omega) ⟨rfl, by simp, ?_, ?_⟩
              · (repeat' (first | exact leSlots_nil | refine leSlots_cons ?_ rfl ?_)) <;> (first | exact DLeT.refl _ _ | (refine (DLe.p ?_).t _; (simp; done)) | skip)
                · exact (DLe.eq (iSub (by dsimp only; omega))).t _
              · refine leHeap_cons rfl ?_ rfl rfl (leHeap_cons rfl ?_ rfl rfl (leHeap_cons rfl ?_ rfl rfl (leHeap_cons rfl ?_ rfl (stD_under _ _ _) (leHeap_cons rfl ?_ rfl (wrD_under _ hSl.1 hSl.2 (by omega)) (leHeap_cons rfl ?_ rfl rfl (leHeap_cons rfl ?_ rfl rfl (leHeap_cons rfl ?_ rfl rfl (leHeap_cons rfl ?_ rfl rfl leHeap_nil)))))))) <;> (first | exact BLeT.refl _ | (refine BLeT.eq ?_; (simp; done)) | skip)
                all_goals first
                  | (refine accEq ?_; simp [MS.write]; done)
                  | (refine accEq ?_; simp [MS.write]; rfl)
                  | (refine accEq ?_; simp [MS.write]; exact ⟨rfl, rfl⟩)
                  | (refine tokEq ?_; simp [MS.write]; done)
                  | exact stEq rfl
                  | exact stEq2 rfl
                  | (refine stEq2 ?_; funext x; by_cases hx : x = i <;> simp [MS.fin, MS.last, set1, hx]; done)
                  | (refine wrEq (e := wEv ((N : Int) - k) i 0) ?_ ?_
                     · rfl
                     · funext x
                       simp only [MS.write]
                       split
                       · rename_i hx; rw [hx]
                       · rfl)
                  | skip
                all_goals trace_state
          · clear hc
            rcases (show c = 2 ∨ c = 3 ∨ c = 4 by omega) with rfl | rfl | rfl
            all_goals
              conv => whnf
              refine wrapP_intro (wrap64 (by first | omega | (dsimp only; omega) | (simp only [List.length_map]; omega)) (by first | omega | (dsimp only; omega) | (simp only [List.length_map]; omega))) ?_
              conv => whnf
              refine wrapP_intro (wrap64 (by first | omega | (dsimp only; omega) | (simp only [List.length_map]; omega)) (by first | omega | (dsimp only; omega) | (simp only [List.length_map]; omega))) ?_
              conv => whnf
              refine needP_intro (⟨by omega, by omega⟩) ?_
              conv => whnf
              refine getD_intro (.acc (5 + 1) ((s.wr 1).map Ev.enc)) (by simpa using wrD_get s.wr hjm) ?_
              conv => whnf
              refine needP_intro (fun x hx => by simp at hx; subst hx; rfl) ?_
              conv => whnf
              refine needP_intro (⟨by simp, fun z hz => by simp at hz; rcases hz with ⟨a, _, rfl⟩ | hz <;> first | rfl | (subst hz; rfl) | (rcases hz with rfl | rfl <;> rfl), by simp; omega⟩) ?_
              conv => whnf
              refine needP_intro (⟨by omega, by omega⟩) ?_
              conv => whnf
              refine needP_intro (by simp [wrD]; omega) ?_
              conv => whnf
              refine needP_intro (by kernel_rfl) ?_
              conv => whnf
              refine needP_intro (fun x hx => by simp at hx; subst hx; rfl) ?_
              conv => whnf
              refine needP_intro (⟨by simp, fun z hz => by simp at hz; rcases hz with ⟨a, _, rfl⟩ | hz <;> first | rfl | (subst hz; rfl) | (rcases hz with rfl | rfl <;> rfl), by simp; omega⟩) ?_
              conv => whnf
              refine wrapP_intro (wrap64 (by first | omega | (dsimp only; omega) | (simp only [List.length_map]; omega)) (by first | omega | (dsimp only; omega) | (simp only [List.length_map]; omega))) ?_
              conv => whnf
              refine hR _ _ _ (k + 1, MS.write ((N : Int) - k) i 1 ⟨T3, s.st, s.wr, s.es⟩) ⟨h1, by rw [hstep, hact]⟩ (by dsimp only; omega) ⟨rfl, by simp, ?_, ?_⟩
              · (repeat' (first | exact leSlots_nil | refine leSlots_cons ?_ rfl ?_)) <;> (first | exact DLeT.refl _ _ | (refine (DLe.p ?_).t _; (simp; done)) | skip)
                · exact (DLe.eq (iSub (by dsimp only; omega))).t _
              · refine leHeap_cons rfl ?_ rfl rfl (leHeap_cons rfl ?_ rfl rfl (leHeap_cons rfl ?_ rfl rfl (leHeap_cons rfl ?_ rfl (stD_under _ _ _) (leHeap_cons rfl ?_ rfl (wrD_under _ hSl.1 hSl.2 (by omega)) (leHeap_cons rfl ?_ rfl rfl (leHeap_cons rfl ?_ rfl rfl (leHeap_cons rfl ?_ rfl rfl (leHeap_cons rfl ?_ rfl rfl leHeap_nil)))))))) <;> (first | exact BLeT.refl _ | (refine BLeT.eq ?_; (simp; done)) | skip)
                all_goals first
                  | (refine accEq ?_; simp [MS.write]; done)
                  | (refine accEq ?_; simp [MS.write]; rfl)
                  | (refine accEq ?_; simp [MS.write]; exact ⟨rfl, rfl⟩)
                  | (refine tokEq ?_; simp [MS.write]; done)
                  | exact stEq rfl
                  | exact stEq2 rfl
                  | (refine stEq2 ?_; funext x; by_cases hx : x = i <;> simp [MS.fin, MS.last, set1, hx]; done)
                  | (refine wrEq (e := wEv ((N : Int) - k) i 1) ?_ ?_
                     · rfl
                     · funext x
                       simp only [MS.write]
                       split
                       · rename_i hx; rw [hx]
                       · rfl)
                  | skip
                all_goals trace_state
          · clear hc
            rcases (show c = 2 ∨ c = 3 ∨ c = 4 by omega) with rfl | rfl | rfl
            all_goals
              conv => whnf
              refine wrapP_intro (wrap64 (by first | omega | (dsimp only; omega) | (simp only [List.length_map]; omega)) (by first | omega | (dsimp only; omega) | (simp only [List.length_map]; omega))) ?_
              conv => whnf
              refine wrapP_intro (wrap64 (by first | omega | (dsimp only; omega) | (simp only [List.length_map]; omega)) (by first | omega | (dsimp only; omega) | (simp only [List.length_map]; omega))) ?_
              conv => whnf
              refine needP_intro (⟨by omega, by omega⟩) ?_
              conv => whnf
              refine getD_intro (.acc (5 + 2) ((s.wr 2).map Ev.enc)) (by simpa using wrD_get s.wr hjm) ?_
              conv => whnf
              refine needP_intro (fun x hx => by simp at hx; subst hx; rfl) ?_
              conv => whnf
              refine needP_intro (⟨by simp, fun z hz => by simp at hz; rcases hz with ⟨a, _, rfl⟩ | hz <;> first | rfl | (subst hz; rfl) | (rcases hz with rfl | rfl <;> rfl), by simp; omega⟩) ?_
              conv => whnf
              refine needP_intro (⟨by omega, by omega⟩) ?_
              conv => whnf
              refine needP_intro (by simp [wrD]; omega) ?_
              conv => whnf
              refine needP_intro (by kernel_rfl) ?_
              conv => whnf
              refine needP_intro (fun x hx => by simp at hx; subst hx; rfl) ?_
              conv => whnf
              refine needP_intro (⟨by simp, fun z hz => by simp at hz; rcases hz with ⟨a, _, rfl⟩ | hz <;> first | rfl | (subst hz; rfl) | (rcases hz with rfl | rfl <;> rfl), by simp; omega⟩) ?_
              conv => whnf
              refine wrapP_intro (wrap64 (by first | omega | (dsimp only; omega) | (simp only [List.length_map]; omega)) (by first | omega | (dsimp only; omega) | (simp only [List.length_map]; omega))) ?_
              conv => whnf
              refine hR _ _ _ (k + 1, MS.write ((N : Int) - k) i 2 ⟨T3, s.st, s.wr, s.es⟩) ⟨h1, by rw [hstep, hact]⟩ (by dsimp only; omega) ⟨rfl, by simp, ?_, ?_⟩
              · (repeat' (first | exact leSlots_nil | refine leSlots_cons ?_ rfl ?_)) <;> (first | exact DLeT.refl _ _ | (refine (DLe.p ?_).t _; (simp; done)) | skip)
                · exact (DLe.eq (iSub (by dsimp only; omega))).t _
              · refine leHeap_cons rfl ?_ rfl rfl (leHeap_cons rfl ?_ rfl rfl (leHeap_cons rfl ?_ rfl rfl (leHeap_cons rfl ?_ rfl (stD_under _ _ _) (leHeap_cons rfl ?_ rfl (wrD_under _ hSl.1 hSl.2 (by omega)) (leHeap_cons rfl ?_ rfl rfl (leHeap_cons rfl ?_ rfl rfl (leHeap_cons rfl ?_ rfl rfl (leHeap_cons rfl ?_ rfl rfl leHeap_nil)))))))) <;> (first | exact BLeT.refl _ | (refine BLeT.eq ?_; (simp; done)) | skip)
                all_goals first
                  | (refine accEq ?_; simp [MS.write]; done)
                  | (refine accEq ?_; simp [MS.write]; rfl)
                  | (refine accEq ?_; simp [MS.write]; exact ⟨rfl, rfl⟩)
                  | (refine tokEq ?_; simp [MS.write]; done)
                  | exact stEq rfl
                  | exact stEq2 rfl
                  | (refine stEq2 ?_; funext x; by_cases hx : x = i <;> simp [MS.fin, MS.last, set1, hx]; done)
                  | (refine wrEq (e := wEv ((N : Int) - k) i 2) ?_ ?_
                     · rfl
                     · funext x
                       simp only [MS.write]
                       split
                       · rename_i hx; rw [hx]
                       · rfl)
                  | skip
                all_goals trace_state
        · subst hc1
          rw [if_neg (by omega), if_neg (by omega)] at hact
          conv => whnf
          refine needP_intro (⟨by omega, by omega⟩) ?_
          conv => whnf
          refine needP_intro (by simp [stD]; omega) ?_
          conv => whnf
          refine needP_intro (fun x hx => by simp at hx; rcases hx with rfl | rfl | rfl <;> rfl) ?_
          conv => whnf
          refine (pick_ac T3 hto3 [3, 3, 4] (by simp) (by simp)).call [0] rfl ⟨DLe.refl _, (DLe.full _).trans (DLe.p rfl), trivial⟩ (ldHeap_cons rfl (BLe.refl _) rfl ldHeap_nil) ?_
          conv => whnf
          refine needP_intro (fun x hx => by simp at hx; subst hx; rfl) ?_
          conv => whnf
          refine needP_intro (⟨by simp, fun z hz => by simp at hz; rcases hz with ⟨a, _, rfl⟩ | hz <;> first | rfl | (subst hz; rfl) | (rcases hz with rfl | rfl <;> rfl), by simp; omega⟩) ?_
          conv => whnf
          refine needP_intro (by kernel_rfl) ?_
          conv => whnf
          refine wrapP_intro (wrap64 (by first | omega | (dsimp only; omega) | (simp only [List.length_map]; omega)) (by first | omega | (dsimp only; omega) | (simp only [List.length_map]; omega))) ?_
          conv => whnf
          refine hR _ _ _ (k + 1, MS.fin i ⟨T3, s.st, s.wr, s.es⟩) ⟨h1, by rw [hstep, hact]⟩ (by dsimp only; omega) ⟨rfl, by simp, ?_, ?_⟩
          · (repeat' (first | exact leSlots_nil | refine leSlots_cons ?_ rfl ?_)) <;> (first | exact DLeT.refl _ _ | (refine (DLe.p ?_).t _; (simp; done)) | skip)
            · exact (DLe.eq (iSub (by dsimp only; omega))).t _
          · refine leHeap_cons rfl ?_ rfl rfl (leHeap_cons rfl ?_ rfl rfl (leHeap_cons rfl ?_ rfl rfl (leHeap_cons rfl ?_ rfl (stD_under _ _ _) (leHeap_cons rfl ?_ rfl (wrD_under _ hSl.1 hSl.2 (by omega)) (leHeap_cons rfl ?_ rfl rfl (leHeap_cons rfl ?_ rfl rfl (leHeap_cons rfl ?_ rfl rfl (leHeap_cons rfl ?_ rfl rfl leHeap_nil)))))))) <;> (first | exact BLeT.refl _ | (refine BLeT.eq ?_; (simp; done)) | skip)
            all_goals first
              | (refine accEq ?_; simp [MS.fin, MS.last]; done)
              | (refine accEq ?_; simp [MS.fin, MS.last]; rfl)
              | (refine accEq ?_; simp [MS.fin, MS.last]; exact ⟨rfl, rfl⟩)
              | (refine tokEq ?_; simp [MS.fin, MS.last]; done)
              | exact stEq rfl
              | exact stEq2 rfl
              | (refine stEq2 ?_; funext x; by_cases hx : x = i <;> simp [MS.fin, MS.last, set1, hx]; done)
              | (refine wrEq (e := wEv ((N : Int) - k) i j) ?_ ?_
                 · rfl
                 · funext x
                   simp only [MS.write]
                   split
                   · rename_i hx; rw [hx]
                   · rfl)
              | skip
            all_goals trace_state
    · have h1 : k = N := by simp at h1; omega
      subst h1
      rw [← hs]
      clear hR e1 e2
      conv => whnf
      refine loop_fam (ι := Nat) (fun q => [(0, .ref 0 0), (2, .ref 1 0), (3, .ref 2 0), (5, .ms 3 1 0 n n), (161, i64 n), (162, i64 q)])
        (fun q => [(0, (finTo s q).tape.blk), (1, .cells 27 [.nilsl, .nilsl]), (2, .cells 27 [.p (ints S), .acc 8 ((finTo s q).es.map Ev.enc)]), (3, .cells 3 (stD s.st n)), (8, .tok 58 5 (finTo s q).es.length)]) 9
        (fun q => q ≤ n) (fun q => n - q) 0 [] (Nat.zero_le _) ⟨rfl, by simp, ?_, ?_⟩ ?_
      · (repeat' (first | exact leSlots_nil | refine leSlots_cons ?_ rfl ?_)) <;> (first | exact DLeT.refl _ _ | (refine (DLe.p ?_).t _; (simp; done)) | skip)
      · refine leHeap_cons rfl (BLeT.refl _) rfl rfl (leHeap_cons rfl (BLeT.refl _) rfl rfl (leHeap_cons rfl (BLeT.refl _) rfl rfl (leHeap_cons rfl (BLeT.refl _) rfl (stD_under _ _ _) (leHeap_cons rfl (BLeT.refl _) rfl rfl leHeap_nil))))
      · rintro q hq2 R2 hR2
        have hfo := finTo_ok hto q
        have hfl := finTo_len s q
        have hfs := finTo_st s q
        conv => whnf
        refine condB_split (fun h2 => ?_) (fun h2 => ?_)
        · have h2 : q < n := by simpa using h2
          conv => whnf
          refine needP_intro (⟨by omega, by omega⟩) ?_
          conv => whnf
          refine getD_intro (i64 (s.st q)) (by simpa using stD_get s.st h2) ?_
          conv => whnf
          refine condB_split (fun h3 => ?_) (fun h3 => ?_)
          · have h3 : s.st q = 1 := by simpa using h3
            have ef : finTo s (q + 1) = (finTo s q).last q := by rw [finTo, hfs, if_pos h3]
            conv => whnf
            refine needP_intro (fun x hx => by simp at hx; rcases hx with rfl | rfl | rfl <;> rfl) ?_
            conv => whnf
            refine (pick_ac (finTo s q).tape hfo [3, 3, 4] (by simp) (by simp)).call [0] rfl ⟨DLe.refl _, (DLe.full _).trans (DLe.p rfl), trivial⟩ (ldHeap_cons rfl (BLe.refl _) rfl ldHeap_nil) ?_
            conv => whnf
            refine needP_intro (fun x hx => by simp at hx; subst hx; rfl) ?_
            conv => whnf
            refine needP_intro (⟨by simp, fun z hz => by simp at hz; rcases hz with ⟨a, _, rfl⟩ | hz <;> first | rfl | (subst hz; rfl) | (rcases hz with rfl | rfl <;> rfl), by simp; omega⟩) ?_
            conv => whnf
            refine needP_intro (by kernel_rfl) ?_
            conv => whnf
            refine wrapP_intro (wrap64 (by first | omega | (dsimp only; omega) | (simp only [List.length_map]; omega)) (by first | omega | (dsimp only; omega) | (simp only [List.length_map]; omega))) ?_
            conv => whnf
            refine hR2 _ _ _ (q + 1) h2 (by omega) ⟨rfl, by simp, ?_, ?_⟩
            · (repeat' (first | exact leSlots_nil | refine leSlots_cons ?_ rfl ?_)) <;> (first | exact DLeT.refl _ _ | (refine (DLe.p ?_).t _; (simp; done)) | skip)
            · refine leHeap_cons rfl (BLeT.eq ?_) rfl rfl (leHeap_cons rfl (BLeT.refl _) rfl rfl (leHeap_cons rfl (accEq ?_) rfl rfl (leHeap_cons rfl (BLeT.refl _) rfl (stD_under _ _ _) (leHeap_cons rfl (tokEq ?_) rfl rfl leHeap_nil))))
              · rw [ef] <;> rfl
              · rw [ef] <;> simp [MS.last] <;> rfl
              · rw [ef] <;> simp [MS.last]
          · have h3 : ¬ s.st q = 1 := by simpa using h3
            have ef : finTo s (q + 1) = finTo s q := by rw [finTo, hfs, if_neg h3]
            conv => whnf
            refine wrapP_intro (wrap64 (by first | omega | (dsimp only; omega) | (simp only [List.length_map]; omega)) (by first | omega | (dsimp only; omega) | (simp only [List.length_map]; omega))) ?_
            conv => whnf
            refine hR2 _ _ _ (q + 1) h2 (by omega) ⟨rfl, by simp, ?_, ?_⟩
            · (repeat' (first | exact leSlots_nil | refine leSlots_cons ?_ rfl ?_)) <;> (first | exact DLeT.refl _ _ | (refine (DLe.p ?_).t _; (simp; done)) | skip)
            · refine leHeap_cons rfl (BLeT.eq ?_) rfl rfl (leHeap_cons rfl (BLeT.refl _) rfl rfl (leHeap_cons rfl (accEq ?_) rfl rfl (leHeap_cons rfl (BLeT.refl _) rfl (stD_under _ _ _) (leHeap_cons rfl (tokEq ?_) rfl rfl leHeap_nil))))
              · rw [ef] <;> rfl
              · rw [ef] <;> simp [MS.last] <;> rfl
              · rw [ef] <;> simp [MS.last]
        · have h2 : q = n := by simp at h2; omega
          subst h2
          conv => whnf
          exact DoneLe.mk [0] rfl rfl (ldHeap_cons rfl (BLe.refl _) rfl ldHeap_nil) (aggLe _ _ _) rfl rfl
end Qa.S43
