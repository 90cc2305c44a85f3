/- Plain: rounds and hints. -/
import Derived.Test.YtaicenafkjbnoaaPlC
set_option linter.unusedVariables false
set_option linter.unusedSimpArgs false
namespace Go.Proofs.Ytaicenafkjbnoaa
open Go Go.AM

def withG (gv g : List Int) : List Int := (List.range gv.length).map fun (i : Nat) => if 0 < g[i]?.getD 0 then g[i]?.getD 0 else gv[i]?.getD 0
theorem withG_get {gv g : List Int} {i : Nat} (h : i < gv.length) : (withG gv g)[i]?.getD 0 = if 0 < g[i]?.getD 0 then g[i]?.getD 0 else gv[i]?.getD 0 := by simp [withG, h]
theorem gridOk_iff {g : List Int} {n : Int} : gridOk g n = true ↔ 2 ≤ n ∧ n ≤ 4 ∧ (g.length : Int) = n * n ∧ ∀ k : Nat, 0 ≤ g[k]?.getD 0 ∧ g[k]?.getD 0 ≤ n := by
  constructor
  · intro h
    obtain ⟨h1, h2, h3⟩ := gridOk_size h
    exact ⟨h1, h2, h3, gridOk_get h⟩
  · rintro ⟨h1, h2, h3, h4⟩
    simp only [gridOk, Bool.and_eq_true, decide_eq_true_eq]
    refine ⟨⟨⟨h1, h2⟩, h3⟩, List.all_eq_true.2 fun x hx => ?_⟩
    obtain ⟨k, hk⟩ := List.getElem?_of_mem hx
    have := h4 k
    rw [hk] at this
    simpa [cellOk] using this
theorem withG_ok {gv g : List Int} {n : Int} (h : gridOk gv n = true) (h' : gridOk g n = true) : gridOk (withG gv g) n = true := by
  obtain ⟨h1, h2, h3, h4⟩ := gridOk_iff.1 h
  obtain ⟨_, _, _, g4⟩ := gridOk_iff.1 h'
  refine gridOk_iff.2 ⟨h1, h2, by simp [withG, h3], fun k => ?_⟩
  by_cases hk : k < gv.length
  · rw [withG_get hk]
    split
    · exact g4 k
    · exact h4 k
  · rw [List.getElem?_eq_none (by simp [withG]; omega)]
    simp
    omega
/-- The puzzle with the values of a grid given. -/
def withP (p : Puzzle) (g : List Int) : Puzzle := ⟨p.size, withG p.given g, p.rules⟩
theorem withP_ok {p : Puzzle} {g : List Int} (hp : puzzleOk p = true) (hg : gridOk g p.size = true) : puzzleOk (withP p g) = true := by
  simp only [puzzleOk, Bool.and_eq_true] at *
  exact ⟨⟨withG_ok hp.1.1 hg, hp.1.2⟩, hp.2⟩
/-! ### Rounds -/
theorem nextRound_some {p : Puzzle} {ms nx : List Int} {t : Int} : ∀ {k : Nat} {t0 : Int}, nextRound p ms k t0 = some (nx, t) → nx = narrowBy p ms t ∧ nx ≠ ms ∧ t0 ≤ t ∧ t < t0 + k ∧ ∀ s, t0 ≤ s → s < t → narrowBy p ms s = ms
  | 0, t0, h => by simp [nextRound] at h
  | k + 1, t0, h => by
    unfold nextRound at h
    split at h
    · rename_i hn
      injection h with h
      injection h with h1 h2
      subst h2
      exact ⟨h1.symm, h1 ▸ hn, by omega, by omega, fun s h1 h2 => by omega⟩
    · rename_i hn
      obtain ⟨h1, h2, h3, h4, h5⟩ := nextRound_some h
      refine ⟨h1, h2, by omega, by omega, fun s g1 g2 => ?_⟩
      by_cases e : s = t0
      · subst e
        exact Classical.not_not.1 hn
      · exact h5 s (by omega) g2
theorem nextRound_none {p : Puzzle} {ms : List Int} : ∀ {k : Nat} {t0 : Int}, nextRound p ms k t0 = none → ∀ s, t0 ≤ s → s < t0 + k → narrowBy p ms s = ms
  | 0, t0, _, s, h1, h2 => by omega
  | k + 1, t0, h, s, h1, h2 => by
    unfold nextRound at h
    split at h
    · cases h
    · rename_i hn
      by_cases e : s = t0
      · subst e
        exact Classical.not_not.1 hn
      · exact nextRound_none h s (by omega) (by omega)
theorem nextRound_skip {p : Puzzle} {ms : List Int} {k : Nat} {t0 : Int} (h : narrowBy p ms t0 = ms) : nextRound p ms (k + 1) t0 = nextRound p ms k (t0 + 1) := by
  rw [nextRound, if_neg (by simp [h])]
theorem nextRound_hit {p : Puzzle} {ms : List Int} {k : Nat} {t0 : Int} (h : narrowBy p ms t0 ≠ ms) : nextRound p ms (k + 1) t0 = some (narrowBy p ms t0, t0) := by
  rw [nextRound, if_pos h]
theorem masks_sum {ms : List Int} {n : Int} (hm : masksOk ms n = true) : 0 ≤ ms.sum := (sum_le_of_sub (SubL.refl hm) fun i => (masks_get hm i).2.1).1
theorem narrow_sum {p : Puzzle} {ms : List Int} {t : Int} (hp : puzzleOk p = true) (hm : masksOk ms p.size = true) (h1 : 1 ≤ t) (h4 : t ≤ 4) (hne : narrowBy p ms t ≠ ms) :
    masksOk (narrowBy p ms t) p.size = true ∧ 0 ≤ (narrowBy p ms t).sum ∧ (narrowBy p ms t).sum < ms.sum := by
  have hs := narrow_sub hp hm h1 h4
  have := sum_le_of_sub hs fun i => (masks_get hm i).2.1
  exact ⟨hs.ok hm, this.1, this.2.2 hne⟩
/-! ### Hints -/
def hintCell (gv ms : List Int) (k : Nat) : Bool := decide (gv[k]?.getD 0 = 0) && single (ms[k]?.getD 0)
def hintAt (gv ms : List Int) : Option (Nat × Int) := ((List.range ms.length).find? (hintCell gv ms)).map fun k => (k, onlyV (ms[k]?.getD 0))
def hintRun (x : Puzzle) : Nat → List Int → Option (Int × Nat × Int)
  | 0, _ => none
  | f + 1, ms =>
    match nextRound x ms 4 1 with
    | none => none
    | some (nx, t) =>
      match hintAt x.given nx with
      | some (c, v) => some (t, c, v)
      | none => hintRun x f nx
theorem hintRun_stable {x : Puzzle} (hx : puzzleOk x = true) : ∀ (f g : Nat) (ms : List Int), masksOk ms x.size = true → ms.sum.toNat < f → ms.sum.toNat < g → hintRun x f ms = hintRun x g ms
  | 0, _, _, _, h, _ => by omega
  | _ + 1, 0, _, _, _, h => by omega
  | f + 1, g + 1, ms, hm, h1, h2 => by
    unfold hintRun
    split
    · rfl
    · rename_i nx t hn
      obtain ⟨e1, e2, e3, e4, _⟩ := nextRound_some hn
      subst e1
      obtain ⟨hk, hs0, hs1⟩ := narrow_sum hx hm (t := t) (by omega) (by omega) e2
      have := masks_sum hm
      rw [hintRun_stable hx f g _ hk (by omega) (by omega)]
/-- The hint from some masks on, their own cells aside. -/
def hintFrom (x : Puzzle) (ms : List Int) : Option (Int × Nat × Int) := hintRun x (ms.sum.toNat + 1) ms
theorem hintFrom_none {x : Puzzle} {ms : List Int} (h : nextRound x ms 4 1 = none) : hintFrom x ms = none := by
  unfold hintFrom hintRun
  rw [h]
theorem hintFrom_some {x : Puzzle} {ms nx : List Int} {t : Int} (hx : puzzleOk x = true) (hm : masksOk ms x.size = true) (h : nextRound x ms 4 1 = some (nx, t)) :
    hintFrom x ms = match hintAt x.given nx with
      | some (c, v) => some (t, c, v)
      | none => hintFrom x nx := by
  obtain ⟨e1, e2, e3, e4, _⟩ := nextRound_some h
  subst e1
  obtain ⟨hk, hs0, hs1⟩ := narrow_sum hx hm (t := t) (by omega) (by omega) e2
  unfold hintFrom
  rw [hintRun, h]
  simp only
  have := masks_sum hm
  rw [hintRun_stable hx ms.sum.toNat _ _ hk (by omega) (Nat.lt_succ_self _)]
def nextHint (p : Puzzle) (g : List Int) : Option (Int × Nat × Int) := if puzzleFits p g = true then hintFrom (withP p g) (startMasks (withP p g)) else none
theorem hintAt_none {gv ms : List Int} (h : ∀ k, k < ms.length → hintCell gv ms k = false) : hintAt gv ms = none := by
  unfold hintAt
  rw [Option.map_eq_none_iff, List.find?_eq_none]
  intro k hk
  simp [h k (List.mem_range.1 hk)]
theorem hintAt_some {gv ms : List Int} {k : Nat} (hk : k < ms.length) (hno : ∀ j, j < k → hintCell gv ms j = false) (h : hintCell gv ms k = true) : hintAt gv ms = some (k, onlyV (ms[k]?.getD 0)) := by
  unfold hintAt
  have : (List.range ms.length).find? (hintCell gv ms) = some k := by
    rw [List.find?_range_eq_some]
    exact ⟨h, List.mem_range.2 hk, fun j hj => by simp [hno j hj]⟩
  rw [this]
  rfl
theorem start_ok {p : Puzzle} (hp : puzzleOk p = true) : startMasks p = gridMasks p.given p.size := by simp [startMasks, hp]
theorem start_none {p : Puzzle} (hp : puzzleOk p = true) : hintAt p.given (startMasks p) = none := by
  rw [start_ok hp]
  refine hintAt_none fun k hk => ?_
  simp only [puzzleOk, Bool.and_eq_true] at hp
  obtain ⟨h1, h2, h3, h4⟩ := gridOk_iff.1 hp.1.1
  have hk' : k < p.given.length := by simpa [gridMasks] using hk
  unfold hintCell
  by_cases h0 : p.given[k]?.getD 0 = 0
  · have : (gridMasks p.given p.size)[k]?.getD 0 = allV p.size := by
      rw [List.getElem?_eq_getElem hk'] at h0
      simp at h0
      simp [gridMasks, List.getElem?_eq_getElem hk', cellMask, h0]
    rw [this]
    have : p.size = 2 ∨ p.size = 3 ∨ p.size = 4 := by omega
    rcases this with e | e | e <;> rw [e] <;> simp [single] <;> intro _ <;> decide
  · simp [h0]
end Go.Proofs.Ytaicenafkjbnoaa
