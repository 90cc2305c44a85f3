/- Plain: pairs of cells in either order. -/
import Derived.Test.YtaicenafkjbnoaaPlD
set_option linter.unusedVariables false
set_option linter.unusedSimpArgs false
namespace Go.Proofs.Ytaicenafkjbnoaa
open Go Go.AM

theorem sub_testBit : ∀ (i x y : Nat), (x - (x &&& y)).testBit i = (x.testBit i && !y.testBit i) := by
  intro i
  induction i with
  | zero =>
    intro x y
    have h1 : (x &&& y) ≤ x := Nat.and_le_left
    have h2 : (x &&& y) % 2 = (x % 2) &&& (y % 2) := by simpa using Nat.and_mod_two_pow (a := x) (b := y) (n := 1)
    simp only [Nat.testBit_zero]
    have hx : x % 2 = 0 ∨ x % 2 = 1 := by omega
    have hy : y % 2 = 0 ∨ y % 2 = 1 := by omega
    have h3 : (x % 2) &&& (y % 2) = if x % 2 = 1 ∧ y % 2 = 1 then 1 else 0 := by
      rcases hx with hx | hx <;> rcases hy with hy | hy <;> rw [hx, hy] <;> rfl
    rw [h3] at h2
    clear h3
    generalize x &&& y = a at *
    rw [Bool.eq_iff_iff]
    simp only [decide_eq_true_eq, Bool.and_eq_true, Bool.not_eq_true', decide_eq_false_iff_not]
    split at h2 <;> omega
  | succ i ih =>
    intro x y
    have h1 : (x &&& y) ≤ x := Nat.and_le_left
    have h2 : (x &&& y) % 2 = (x % 2) &&& (y % 2) := by simpa using Nat.and_mod_two_pow (a := x) (b := y) (n := 1)
    have h3 : (x &&& y) / 2 = x / 2 &&& y / 2 := Nat.and_div_two ..
    have h4 : (x &&& y) % 2 ≤ x % 2 := by rw [h2]; exact Nat.and_le_left
    have h5 : (x - (x &&& y)) / 2 = x / 2 - (x / 2 &&& y / 2) := by
      rw [← h3]
      clear h2 h3
      generalize x &&& y = a at *
      omega
    rw [Nat.testBit_succ, Nat.testBit_succ, Nat.testBit_succ, h5]
    exact ih _ _
theorem subI_comm (x a b : Int) : subI (subI x a) b = subI (subI x b) a := by
  unfold subI
  congr 1
  simp only [Int.toNat_natCast]
  apply Nat.eq_of_testBit_eq
  intro i
  simp only [sub_testBit]
  cases x.toNat.testBit i <;> cases a.toNat.testBit i <;> cases b.toNat.testBit i <;> rfl
/-- A value taken away at a place. -/
def ev (out : List Int) (e : Int × Nat) : List Int := out.set e.2 (subI (out[e.2]?.getD 0) e.1)
theorem ev_comm (out : List Int) (e f : Int × Nat) : ev (ev out e) f = ev (ev out f) e := by
  obtain ⟨m, i⟩ := e
  obtain ⟨m', j⟩ := f
  unfold ev
  simp only
  by_cases h : i = j
  · subst h
    by_cases hl : i < out.length
    · rw [List.getElem?_set_self hl, List.getElem?_set_self hl]
      simp only [Option.getD_some, List.set_set]
      rw [subI_comm]
    · rw [List.set_eq_of_length_le (by simp; omega), List.set_eq_of_length_le (by omega), List.set_eq_of_length_le (by simp; omega), List.set_eq_of_length_le (by omega)]
  · rw [List.getElem?_set_ne h, List.getElem?_set_ne (fun e => h e.symm), List.set_comm _ _ h]
theorem ev_perm {l l' : List (Int × Nat)} (h : l.Perm l') (out : List Int) : l.foldl ev out = l'.foldl ev out := h.foldl_eq' (fun x _ y _ z => ev_comm z y x ▸ rfl) out
theorem foldl_ifE {α β : Type} (f : β → α → β) (c : α → Bool) : ∀ (l : List α) (b : β), l.foldl (fun b a => if c a = true then f b a else b) b = (l.filter c).foldl f b
  | [], b => rfl
  | a :: l, b => by
    simp only [List.foldl_cons, List.filter_cons]
    split
    · rw [List.foldl_cons]
      exact foldl_ifE f c l _
    · exact foldl_ifE f c l _
theorem foldl_congrE {α β : Type} {f g : β → α → β} : ∀ (l : List α) (b : β), (∀ b, ∀ a ∈ l, f b a = g b a) → l.foldl f b = l.foldl g b
  | [], b, _ => rfl
  | a :: l, b, h => by
    simp only [List.foldl_cons]
    rw [h b a (by simp)]
    exact foldl_congrE l _ fun b a ha => h b a (by simp [ha])
def evs (ms : List Int) (n line : Int) (q : Nat × Nat) : List (Int × Nat) :=
  if pairC ms n line q.1 q.2 = true then ((List.range n.toNat).filter fun k => decide (k ≠ q.1) && decide (k ≠ q.2)).map fun k => (getI ms ((lineCells n line)[q.1]?.getD 0), ((lineCells n line)[k]?.getD 0).toNat) else []
theorem evs_swap (ms : List Int) (n line : Int) (i j : Nat) : evs ms n line (i, j) = evs ms n line (j, i) := by
  unfold evs pairC
  simp only
  by_cases h : getI ms ((lineCells n line)[i]?.getD 0) = getI ms ((lineCells n line)[j]?.getD 0)
  · rw [h]
    simp only [decide_true, Bool.true_and]
    split
    · congr 1
      congr 1
      funext k
      rw [Bool.and_comm]
    · rfl
  · have h' : ¬ getI ms ((lineCells n line)[j]?.getD 0) = getI ms ((lineCells n line)[i]?.getD 0) := fun e => h e.symm
    simp [h, h']
theorem pair1_evs (ms : List Int) (n line : Int) (i j : Nat) (out : List Int) : pair1 ms n line i out j = (evs ms n line (i, j)).foldl ev out := by
  unfold pair1 evs
  simp only
  split
  · rw [List.foldl_map, ← foldl_ifE]
    refine foldl_congrE _ _ fun b q _ => ?_
    unfold pairK ev
    simp only [Bool.and_eq_true, decide_eq_true_eq, getI]
  · rfl
/-- The pairs of places, the second one greater; the first one's place and how much further. -/
def pairsX (n : Nat) : List (Nat × Nat) := (List.range n).flatMap fun i => (List.range (n - (i + 1))).map fun j => (i + 1 + j, i)
def pairsY (n : Nat) : List (Nat × Nat) := (List.range n).flatMap fun i => (List.range i).map fun j => (i, j)
theorem pairs_perm {n : Int} (h2 : 2 ≤ n) (h4 : n ≤ 4) : (pairsX n.toNat).Perm (pairsY n.toNat) := by
  rw [← List.isPerm_iff]
  have : n = 2 ∨ n = 3 ∨ n = 4 := by omega
  rcases this with rfl | rfl | rfl <;> decide
def pairX (ms : List Int) (n line : Int) (i : Nat) (out : List Int) (j : Nat) : List Int := pair1 ms n line i out (i + 1 + j)
def pairXI (ms : List Int) (n line : Int) (out : List Int) (i : Nat) : List Int := (List.range (n.toNat - (i + 1))).foldl (pairX ms n line i) out
def pairXL (ms : List Int) (n : Int) (out : List Int) (l : Nat) : List Int := (List.range n.toNat).foldl (pairXI ms n l) out
theorem pairXL_eq {ms : List Int} {n : Int} (h2 : 2 ≤ n) (h4 : n ≤ 4) (out : List Int) (l : Nat) : pairXL ms n out l = pairL ms n out l := by
  have e1 : pairXL ms n out l = ((pairsX n.toNat).flatMap (evs ms n l)).foldl ev out := by
    unfold pairXL pairsX
    rw [List.foldl_flatMap, List.foldl_flatMap]
    refine foldl_congrE _ _ fun b i _ => ?_
    unfold pairXI
    rw [List.foldl_map]
    refine foldl_congrE _ _ fun b j _ => ?_
    unfold pairX
    rw [pair1_evs, evs_swap]
  have e2 : pairL ms n out l = ((pairsY n.toNat).flatMap (evs ms n l)).foldl ev out := by
    unfold pairL pairsY
    rw [List.foldl_flatMap, List.foldl_flatMap]
    refine foldl_congrE _ _ fun b i _ => ?_
    unfold pairI
    rw [List.foldl_map]
    refine foldl_congrE _ _ fun b j _ => ?_
    rw [pair1_evs]
  rw [e1, e2, ev_perm ((pairs_perm h2 h4).flatMap_right _)]
theorem lineCells_nodup {n line : Int} (h : lineOk n line = true) : (lineCells n line).Nodup := by
  obtain ⟨h1, h2, h3, h4⟩ := lineOk_iff.1 h
  have hc : ∀ N : Fin 5, ∀ l : Fin 8, lineOk ((N.val : Nat) : Int) ((l.val : Nat) : Int) = true → (lineCells ((N.val : Nat) : Int) ((l.val : Nat) : Int)).Nodup := by decide +kernel
  have := hc ⟨n.toNat, by omega⟩ ⟨line.toNat, by omega⟩
  simp only [Int.toNat_of_nonneg (show 0 ≤ n by omega), Int.toNat_of_nonneg h3] at this
  exact this h
theorem lineCells_inj {n line : Int} (h : lineOk n line = true) {i j : Nat} (hi : i < n.toNat) (hj : j < n.toNat) : (lineCells n line)[i]?.getD 0 = (lineCells n line)[j]?.getD 0 ↔ i = j := by
  have hl := lineCells_len h
  rw [List.getElem?_eq_getElem (by omega), List.getElem?_eq_getElem (by omega)]
  simp only [Option.getD_some]
  constructor
  · intro e
    have hp := List.pairwise_iff_getElem.1 (lineCells_nodup h)
    rcases Nat.lt_trichotomy i j with hlt | heq | hlt
    · exact absurd e (hp i j _ _ hlt)
    · exact heq
    · exact absurd e.symm (hp j i _ _ hlt)
  · rintro rfl
    rfl
end Go.Proofs.Ytaicenafkjbnoaa
