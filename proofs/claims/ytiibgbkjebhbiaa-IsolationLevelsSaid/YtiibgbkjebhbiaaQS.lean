/-
  The sort of a slice, as a contract.
  Part of a proof about the program's own text; written by an AI agent. No statement is proved here: the lemmas that the last text needs.
-/
import Derived.Test.YtiibgbkjebhbiaaQ5
import Derived.Shelf.SlSortCmp.WholeK
import Derived.Shelf.SlSortCmp.NoneTotal
namespace Qa
open Go Go.Proofs Go.Shelf Go.Sort

/-- new blocks, draws: all stands. -/
theorem WRel.more {n0 d0 H nx c F w} (h : WRel n0 d0 H nx c F w) {w' : World} (hh : ∀ g, g < w.heap.size → w'.heap[g]? = w.heap[g]?) (hs : w.heap.size ≤ w'.heap.size) (hio : SameIO w w') :
    WRel n0 d0 H nx c F w' ∧ Step nx c w c w' ∧ Later n0 d0 F c w c w' := by
  have hk : KStep c.K w c.K w' := fun g o hk => ⟨hk, fun u hu => by rw [World.cell?_of_block (w := w) (hh g (h.kb g o hk))]; exact hu⟩
  have hst : ∀ n, Step n c w c w' := fun n => ⟨hk, fun _ _ => rfl, fun _ _ => tgrow.refl _⟩
  refine ⟨⟨fun b k hb => ?_, h.inj, h.bh, h.dm, h.n0, fun g o hk => Nat.lt_of_lt_of_le (h.kb g o hk) hs, fun g hg => Nat.lt_of_lt_of_le (h.fb g hg) hs⟩, hst nx,
    ⟨hst _, fun g hg => hh g (h.fb g hg), fun g o hk => .inl hk, hs, fun _ _ _ => rfl, hio⟩⟩
  obtain ⟨hlt, hun⟩ := h.bh b k hb
  exact (h.blk b k hb).mono (hst nx) hlt hun (fun g hp => hh g ((h.blk b k hb).place_lt hp).1) (fun _ _ _ hk => hk) rfl

/-- a world that stands but for new blocks and draws. -/
theorem world_grown {w w' : World} (hh : ∀ g, g < w.heap.size → w'.heap[g]? = w.heap[g]?) (hs : w.heap.size ≤ w'.heap.size) (hio : SameIO w w') : ∃ q os, w' = grow (w.drewN q) os := by
  refine ⟨w'.drawn - w.drawn, w'.heap.extract w.heap.size w'.heap.size, ?_⟩
  have e1 : w'.heap = w.heap ++ w'.heap.extract w.heap.size w'.heap.size := by
    apply Array.ext_getElem?
    intro i
    by_cases hi : i < w.heap.size
    · rw [Array.getElem?_append_left hi]; exact hh i hi
    · rw [Array.getElem?_append_right (by omega), Array.getElem?_extract]
      split
      · congr 1; omega
      · rename_i h2
        exact Array.getElem?_eq_none (by omega)
  have e2 : (w.drewN (w'.drawn - w.drawn)).heap = w.heap := rfl
  have e3 : (w.drewN (w'.drawn - w.drawn)).drawn = w.drawn + (w'.drawn - w.drawn) := rfl
  cases w'
  simp only [grow, World.drewN] at *
  obtain ⟨h1, h2, h3, h4⟩ := hio
  simp only at h1 h2 h3 h4
  subst h1 h2 h3
  simp only [World.mk.injEq, true_and, and_true]
  exact ⟨e1, by omega⟩

/-- a contract of pure data is what the sort asks of its comparison. -/
theorem AC.cmpLays {P : Program} {f : Nat} {α : Type} [Inhabited α] {encP : α → Pd} {enc : α → List Value} (hv : ∀ x K w, Rp K w (encP x) (.agg (enc x).toArray)) {cf : α → α → Int}
    (h : ∀ x y, ∃ Hs, AC P f [.p (encP x), .p (encP y)] [] (.p (.int .i64 (cf x y))) Hs) (k blk off size : Nat) (w : World) : CmpLays P f #[] enc k cf blk off size w := by
  intro m os dk _ x y
  obtain ⟨Hs, h⟩ := h x y
  generalize sortWorldK enc k w blk off m dk os = W
  unfold AC at h
  obtain ⟨_, _, h⟩ := h
  have hd : dom (lheap 0 []) = fun _ => False := by
    funext x
    simp [dom, lheap, H0]
  have hl : lheap 0 [] = fun _ => none := by funext x; rfl
  have hw : WRel 0 (fun _ => False) (fun _ => none) (below 0) ⟨id, fun _ => none, fun _ _ => False⟩ (fun g => g < W.heap.size) W :=
    { blk := fun _ _ h => nomatch h
      inj := fun _ _ _ _ _ h => nomatch h
      bh := fun _ _ h => nomatch h
      dm := fun _ _ h => nomatch h
      n0 := fun b h => absurd h (Nat.not_lt_zero b)
      kb := fun _ _ h => h.elim
      fb := fun _ h => h }
  rw [← hd, ← hl] at hw
  have := h (fun g => g < W.heap.size) _ W [.agg (enc x).toArray, .agg (enc y).toArray] ⟨hv x _ _, hv y _ _, trivial⟩ hw
  refine (Calls.mono this ?_ : Calls P f _ W _)
  rintro e w' ⟨v, c', rfl, _, hv, _, hl⟩
  have hv : v = .int .i64 (cf x y) := Rp.int_inv hv
  subst hv
  exact ⟨rfl, world_grown (fun g hg => hl.f g hg) hl.sz hl.io⟩

theorem FnOk.enters {P : Program} {g : Nat} (h : FnOk P g) : ∀ args w, (callFunc g args).run P w = .ok (.enter g args) w := by
  obtain ⟨fn, hf, hb, hn⟩ := h
  cases hc : fn.body with
  | none => simp [hc] at hb
  | some c => exact enters_of hf hn hc

theorem heap_putRow {α : Type} [Inhabited α] (enc : α → Value) {w : World} {g : Nat} {cur : Array Value} {e : TypeId} {fr : Nat × Nat} (h : w.heap[g]? = some (.cells cur e fr)) (off : Nat) (d : Array α) :
    (putRow enc w g off d).heap[g]? = some (.cells (putCells enc off d cur) e fr) ∧ ∀ g', g' ≠ g → (putRow enc w g off d).heap[g']? = w.heap[g']? := by
  refine ⟨?_, fun g' hg => ?_⟩
  · simp [putRow, mapBlock, Array.getElem?_modify, h, onCells]
  · simp [putRow, mapBlock, Array.getElem?_modify, Ne.symm hg]

/-- slices.SortFunc, of a vector of data that a comparison parts. -/
theorem sort_ac {P : Program} {ρ : Ren} (L : SlLaysF0.n6 P ρ) (k : Nat) (hk0 : 0 < k) (aE : ∀ w, (isAgg (ρ.t 24)).run P w = .ok true w) (zE : ∀ w, (Go.sizeOf (ρ.t 24)).run P w = .ok k w) {α : Type} [Inhabited α]
    (encP : α → Pd) (enc : α → List Value) (hv : ∀ x K w, Rp K w (encP x) (.agg (enc x).toArray)) (hinv : ∀ x K w (j : Nat) q u, (encP x).cells[j]? = some q → Rp K w q u → (enc x)[j]? = some u)
    (hlen : ∀ x, (enc x).length = k) (hcl : ∀ x, (encP x).cells.length = k) (hpc : ∀ x, (encP x) = .agg (encP x).cells) (h1 : ∀ x, ∀ v ∈ enc x, v.oneCell' = true) (cf : α → α → Int) (hO : SWO (ltOf cf))
    (hant : ∀ x y, ltOf cf x y = false → ltOf cf y x = false → x = y) (g : Nat) (hg : FnOk P g) (hcmp : ∀ x y, ∃ Hs, AC P g [.p (encP x), .p (encP y)] [] (.p (.int .i64 (cf x y))) Hs)
    (e : TypeId) (v : Nat) (l : List α) (hl : l.length < 4611686018427387904) (hfn : FnOk P (ρ.f 6)) :
    AC P (ρ.f 6) [.vec 0 v k 0 l.length, .fn g [] []] [.vec e k v (l.map encP)] (.tup []) [.vec e k v ((l.mergeSort (fun x y => !ltOf cf y x)).map encP)] := by
  unfold AC
  refine ⟨hfn, Nat.le_refl _, fun F c w vs hr hw => ?_⟩
  match vs, hr with
  | [v0, v1], ⟨hr0, hr1, _⟩ =>
  obtain ⟨xs1, xs2, rfl, ha, hb⟩ := hr1
  have ea : xs1 = [] := by cases xs1 with | nil => rfl | cons _ _ => exact ha.elim
  have eb : xs2 = [] := by cases xs2 with | nil => rfl | cons _ _ => exact hb.elim
  subst ea
  subst eb
  have hH0 : lheap 0 [Blk.vec e k v (l.map encP)] 0 = some (.vec e k v (l.map encP)) := rfl
  obtain ⟨p, hτ, hp⟩ := hw.blk 0 _ hH0
  have hv0 := (hr0.2 _ _ hτ).2 rfl
  by_cases hl0 : l = []
  · subst hl0
    have : ∃ a cap, v0 = .slice a 0 cap := by
      obtain ⟨a, cap, h⟩ := hr0.1
      exact ⟨a, cap, h⟩
    obtain ⟨a, cap, rfl⟩ := this
    refine (AnyF.slices_SortFunc_none L a cap (.func (.func g) #[] #[]) w).mono ?_
    rintro e' w' ⟨rfl, rfl⟩
    have e0 : ([] : List α).mergeSort (fun x y => !ltOf cf y x) = [] := by simp
    rw [e0]
    exact ⟨_, c, rfl, rfl, ⟨[], rfl, trivial⟩, hw, Later.refl _ _ _ _ _⟩
  have hpos := List.length_pos_iff.2 hl0
  cases p with
  | none =>
    have hp : l.map encP = [] := hp
    exact absurd (List.map_eq_nil_iff.1 hp) hl0
  | some q =>
    obtain ⟨g0, cap⟩ := q
    obtain ⟨cur, hg0, hvr, hcm, hcs, hnF, hnK⟩ := hp
    obtain ⟨o, rfl, ho, hlc⟩ := hv0
    have ho0 : o = 0 := by have := ho (by omega); simpa using this
    subst ho0
    have hlt : g0 < w.heap.size := (Array.getElem?_eq_some_iff.1 hg0).1
    have hn := hvr.n
    rw [List.length_map] at hn
    have hHold : HoldsK enc k w g0 0 l.toArray := by
      intro t ht
      rw [size_flatK] at ht
      have ht' : t < l.length * k := by simpa using ht
      have hi : t / k < l.length := Nat.div_lt_of_lt_mul (by rw [Nat.mul_comm]; exact ht')
      have hj : t % k < k := Nat.mod_lt _ hk0
      have hx : (l.map encP)[t / k]? = some (encP l[t / k]) := by rw [List.getElem?_map, List.getElem?_eq_getElem hi]; rfl
      have hq : (encP l[t / k]).cells[t % k]? = some ((encP l[t / k]).cells[t % k]'(by rw [hcl]; exact hj)) := List.getElem?_eq_getElem _
      obtain ⟨u, hu, hru⟩ := hvr.r _ _ _ _ hx hq
      have hu2 := hinv _ _ _ _ _ _ hq hru
      have e1 : t / k * k + t % k = t := by rw [Nat.mul_comm]; exact Nat.div_add_mod t k
      rw [e1] at hu
      refine ⟨?_, ?_⟩
      · rw [Nat.zero_add, cell_of_row w g0 t _ _ _ hg0, hu, get_flatK enc k l.toArray t (by simpa using ht')]
        have e2 : l.toArray[t / k]! = l[t / k] := by simp [hi]
        rw [e2]
        have hlt2 : t % k < (enc l[t / k]).length := by rw [hlen]; exact hj
        rw [getElem!_pos (enc l[t / k]) (t % k) hlt2]
        rw [List.getElem?_eq_getElem hlt2] at hu2
        cases hu2
        rfl
      · simp [World.frozen?, hg0]
    have hsz : l.toArray.size = l.length := by simp
    have hcon := AnyQ.slices_SortFunc_total L k aE zE enc hlen h1 cf hO g #[] g0 0 (cap - 0) l.toArray w hg.enters (AC.cmpLays hv hcmp k g0 0 l.toArray.size w) hHold hlt (by simpa using hl) hant
    rw [hsz] at hcon
    refine (Calls.mono hcon ?_ : Calls P (ρ.f 6) _ w _)
    rintro e' w' ⟨rfl, n, os, rfl⟩
    have e0 : l.toArray.toList = l := by simp
    rw [e0]
    generalize hl' : l.mergeSort (fun x y => !ltOf cf y x) = l'
    have hll : l'.length = l.length := by rw [← hl']; exact List.length_mergeSort _
    -- the row
    have hh := heap_putRow (α := Value) id (w := ahead w n) (g := g0) (cur := cur) (e := e) (fr := (0, 0)) hg0 0 (flatK enc k l'.toArray)
    have hHold2 : HoldsK enc k (putRowK enc k (ahead w n) g0 0 l'.toArray) g0 0 l'.toArray := holdsK_putRowK enc k (ahead w n) g0 0 l.toArray l'.toArray (holdsK_ahead enc k w n g0 0 _ hHold) (by simp [hll])
    unfold putRowK at hHold2
    have hblk : BlkRel c F (putRowK enc k (ahead w n) g0 0 l'.toArray) 0 (.vec e k v (l'.map encP)) := by
      refine ⟨some (g0, cap), hτ, putCells id 0 (flatK enc k l'.toArray) cur, hh.1, ⟨fun x hx => ?_, ?_, fun t u ht hu => ?_, fun i x j q hx hq => ?_⟩, hcm, by simp [putCells, hcs], hnF, hnK⟩
      · obtain ⟨y, _, rfl⟩ := List.mem_map.1 hx; exact hcl y
      · rw [List.length_map, hll]; simpa [putCells] using hn
      · rw [List.length_map] at ht
        have := (hHold2 t (by simpa using ht)).1
        rw [Nat.zero_add, cell_of_row _ g0 t _ _ _ hh.1, hu, get_flatK enc k l'.toArray t (by simpa using ht)] at this
        have hi : t / k < l'.length := Nat.div_lt_of_lt_mul (by rw [Nat.mul_comm]; exact ht)
        have e2 : l'.toArray[t / k]! = l'[t / k] := by simp [hi]
        rw [e2] at this
        have hlt2 : t % k < (enc l'[t / k]).length := by rw [hlen]; exact Nat.mod_lt _ hk0
        rw [getElem!_pos (enc l'[t / k]) (t % k) hlt2] at this
        cases this
        exact h1 _ _ (List.getElem_mem hlt2)
      · rw [List.getElem?_map, Option.map_eq_some_iff] at hx
        obtain ⟨y, hy, rfl⟩ := hx
        have hi := (List.getElem?_eq_some_iff.1 hy).1
        have hj : j < k := by rw [← hcl y]; exact (List.getElem?_eq_some_iff.1 hq).1
        have ht : i * k + j < l'.length * k := by
          have : (i + 1) * k ≤ l'.length * k := Nat.mul_le_mul_right _ hi
          rw [Nat.add_mul, Nat.one_mul] at this; omega
        have := (hHold2 (i * k + j) (by simpa using ht)).1
        have d1 : (i * k + j) / k = i := by rw [Nat.mul_comm, Nat.mul_add_div hk0, Nat.div_eq_of_lt hj]; rfl
        have d2 : (i * k + j) % k = j := by rw [Nat.mul_comm, Nat.mul_add_mod, Nat.mod_eq_of_lt hj]
        rw [Nat.zero_add, cell_of_row _ g0 _ _ _ _ hh.1, get_flatK enc k l'.toArray _ (by simpa using ht), d1, d2] at this
        have e2 : l'.toArray[i]! = y := by
          have : l'[i] = y := by rw [List.getElem?_eq_getElem hi] at hy; exact Option.some.inj hy
          simp [hi, this]
        rw [e2] at this
        have hlt2 : j < (enc y).length := by rw [hlen]; exact hj
        refine ⟨_, this, ?_⟩
        show Rp _ _ q (enc y)[j]!
        rw [getElem!_pos (enc y) j hlt2]
        have hry := hv y c.K (putRowK enc k (ahead w n) g0 0 l'.toArray)
        obtain ⟨u, hu, _, hru⟩ := hry.cell_get hq
        have : (enc y)[j]? = some u := by simpa [Value.cells] using hu
        rw [List.getElem?_eq_getElem hlt2] at this
        cases this
        exact hru
    have hpl : place c 0 (.vec e k v (l.map encP)) = some g0 := by simp [place, hτ]
    have hpl2 : place c 0 (.vec e k v (l'.map encP)) = some g0 := by simp [place, hτ]
    have hsize : (putRowK enc k (ahead w n) g0 0 l'.toArray).heap.size = w.heap.size := Go.Sort.size_putRow _ _ _ _ _
    obtain ⟨r1, _, r3⟩ := hw.row (k' := .vec e k v (l'.map encP)) hH0 hpl hnK (putRowK enc k (ahead w n) g0 0 l'.toArray) hh.2 (by rw [hsize]; exact Nat.le_refl _) hblk hpl2 rfl ⟨rfl, rfl, rfl, Nat.le_add_right _ _⟩
    obtain ⟨m1, _, m3⟩ := r1.more (w' := grow (putRowK enc k (ahead w n) g0 0 l'.toArray) os) (fun g hg => by simp only [grow]; exact Array.getElem?_append_left hg) (by simp [grow]) ⟨rfl, rfl, rfl, Nat.le_refl _⟩
    refine ⟨_, c, rfl, rfl, ⟨[], rfl, trivial⟩, ?_, r3.trans m3⟩
    have : hset (lheap 0 [Blk.vec e k v (l.map encP)]) 0 (.vec e k v (l'.map encP)) = lheap 0 [Blk.vec e k v (l'.map encP)] := by
      funext x
      simp only [lheap, hset]
      cases Nat.beq x 0 <;> rfl
    rw [← this]
    exact m1
end Qa
