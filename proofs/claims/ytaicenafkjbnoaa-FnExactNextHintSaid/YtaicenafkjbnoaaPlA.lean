/- Plain definitions: grids, lines, rules, ways, masks, techniques, puzzles. No program in sight. -/
set_option linter.unusedVariables false
set_option linter.unusedSimpArgs false
namespace Go.Proofs.Ytaicenafkjbnoaa

/-! ### Grids -/
def cellOk (n v : Int) : Bool := decide (0 ≤ v) && decide (v ≤ n)
def gridOk (g : List Int) (n : Int) : Bool := decide (2 ≤ n) && decide (n ≤ 4) && decide ((g.length : Int) = n * n) && g.all (cellOk n)
def pos (v : Int) : Bool := decide (0 < v)
def filledN (g : List Int) : Nat := g.countP pos
def gridFilled (g : List Int) (n : Int) : Int := if gridOk g n then (filledN g : Int) else -1
def getI (l : List Int) (i : Int) : Int := l[i.toNat]?.getD 0
theorem sq_bound {n : Int} (h2 : 2 ≤ n) (h4 : n ≤ 4) : 4 ≤ n * n ∧ n * n ≤ 16 := by
  have : n = 2 ∨ n = 3 ∨ n = 4 := by omega
  rcases this with rfl | rfl | rfl <;> decide
theorem gridOk_size {g : List Int} {n : Int} (h : gridOk g n = true) : 2 ≤ n ∧ n ≤ 4 ∧ (g.length : Int) = n * n := by
  simp only [gridOk, Bool.and_eq_true, decide_eq_true_eq] at h
  exact ⟨h.1.1.1, h.1.1.2, h.1.2⟩
theorem gridOk_get {g : List Int} {n : Int} (h : gridOk g n = true) (k : Nat) : 0 ≤ g[k]?.getD 0 ∧ g[k]?.getD 0 ≤ n := by
  simp only [gridOk, Bool.and_eq_true, decide_eq_true_eq] at h
  obtain ⟨⟨⟨h1, h2⟩, h3⟩, h4⟩ := h
  cases hk : g[k]? with
  | none => simp; omega
  | some x =>
    have := List.all_eq_true.1 h4 x (List.mem_of_getElem? hk)
    simp only [cellOk, Bool.and_eq_true, decide_eq_true_eq] at this
    simpa using this

/-! ### Lines -/
def lineOk (n line : Int) : Bool := decide (2 ≤ n) && decide (n ≤ 4) && decide (0 ≤ line) && decide (line < 2 * n)
def lineCell (n line k : Int) : Int := if line < n then line * n + k else k * n + line - n
def lineCells (n line : Int) : List Int := if lineOk n line then (List.range n.toNat).map fun (k : Nat) => lineCell n line k else []
def lineVals (g : List Int) (n line : Int) : List Int := (lineCells n line).map (getI g)
def clashL (vs : List Int) : Bool := !decide ((vs.filter pos).Nodup)
def clash (g : List Int) (n : Int) : Bool := (List.range (2 * n).toNat).any fun (l : Nat) => clashL (lineVals g n l)
def squareFits (g : List Int) (n : Int) : Bool := gridOk g n && !clash g n
def squareSolved (g : List Int) (n : Int) : Bool := squareFits g n && decide (gridFilled g n = n * n)

/-! ### Masks -/
def orI (a b : Int) : Int := ((a.toNat ||| b.toNat : Nat) : Int)
def andI (a b : Int) : Int := ((a.toNat &&& b.toNat : Nat) : Int)
def subI (a b : Int) : Int := ((a.toNat - (a.toNat &&& b.toNat) : Nat) : Int)
def bit (m v : Int) : Bool := m.toNat.testBit v.toNat
def one (v : Int) : Int := ((2 ^ v.toNat : Nat) : Int)
def allV (n : Int) : Int := ((2 ^ (n + 1).toNat : Nat) : Int) - 2
def maskOk (n m : Int) : Bool := decide (0 ≤ m) && decide (m ≤ allV n) && decide (m % 2 = 0)
def maskVals (m : Int) : List Int := if maskOk 4 m then [1, 2, 3, 4].filter (bit m) else []
def onlyV (m : Int) : Int := if m = 2 then 1 else if m = 4 then 2 else if m = 8 then 3 else if m = 16 then 4 else 0
def masksOk (ms : List Int) (n : Int) : Bool := decide (2 ≤ n) && decide (n ≤ 4) && decide ((ms.length : Int) = n * n) && ms.all (maskOk n)

/-! ### Rules -/
structure Rule where
  kind : Int
  cells : List Int
  value : Int
  deriving DecidableEq
def inGrid (n c : Int) : Bool := decide (0 ≤ c) && decide (c < n * n)
def kindOk (r : Rule) (n : Int) : Bool :=
  if r.kind = 1 then decide (2 ≤ r.cells.length) && decide (r.cells.length ≤ 4) && decide (r.value = 0)
  else if r.kind = 2 ∨ r.kind = 3 then decide (1 ≤ r.cells.length) && decide (r.cells.length ≤ 4) && decide (1 ≤ r.value) && decide (r.value ≤ n * n * n * n)
  else if r.kind = 4 then decide (r.cells.length = 2) && decide (r.value = 0)
  else if r.kind = 5 then decide (r.cells.length = 2) && decide (0 ≤ r.value) && decide (r.value < n)
  else false
def ruleOk (r : Rule) (n : Int) : Bool := decide (2 ≤ n) && decide (n ≤ 4) && r.cells.all (inGrid n) && decide r.cells.Nodup && kindOk r n
/-- Whether a rule holds for the values of its cells. -/
def holdsV (r : Rule) (vs : List Int) : Bool :=
  if r.kind = 1 then decide vs.Nodup
  else if r.kind = 2 then decide (vs.sum = r.value)
  else if r.kind = 3 then decide (vs.foldl (· * ·) 1 = r.value)
  else if r.kind = 4 then decide (vs[0]?.getD 0 < vs[1]?.getD 0)
  else decide (max (vs[0]?.getD 0 - vs[1]?.getD 0) (vs[1]?.getD 0 - vs[0]?.getD 0) = r.value)
def orAll (out vs : List Int) : List Int := List.zipWith (fun o v => orI o (one v)) out vs
/-- All ways in which the cells that are left take a value of their lists, behind these values: what is found. -/
def waysO (r : Rule) : List (List Int) → List Int → List Int → List Int
  | [], vs, f => if holdsV r vs = true then orAll f vs else f
  | l :: ls, vs, f => l.foldl (fun f v => waysO r ls (vs ++ [v]) f) f
def ruleMasks (r : Rule) (own : List Int) : List Int := waysO r (own.map maskVals) [] (List.replicate own.length 0)
def ownOf (r : Rule) (ms : List Int) : List Int := r.cells.map (getI ms)
def cellMask (n v : Int) : Int := if 0 < v then one v else allV n
def gridMasks (g : List Int) (n : Int) : List Int := g.map (cellMask n)
def canHold (r : Rule) (g : List Int) (n : Int) : Bool := decide ((ruleMasks r (r.cells.map fun c => cellMask n (getI g c)))[0]?.getD 0 ≠ 0)

/-! ### Puzzles -/
structure Puzzle where
  size : Int
  given : List Int
  rules : List Rule
  deriving DecidableEq
def puzzleOk (p : Puzzle) : Bool := gridOk p.given p.size && decide (p.rules.length ≤ 20) && p.rules.all fun r => ruleOk r p.size
def agree (gv g : List Int) : Bool := (List.range g.length).all fun k => !(pos (g[k]?.getD 0) && pos (gv[k]?.getD 0) && decide (g[k]?.getD 0 ≠ gv[k]?.getD 0))
def fits0 (n : Int) (rules : List Rule) (g : List Int) : Bool := !clash g n && rules.all fun r => canHold r g n
def puzzleFits (p : Puzzle) (g : List Int) : Bool := puzzleOk p && gridOk g p.size && agree p.given g && fits0 p.size p.rules g
def puzzleSolved (p : Puzzle) (g : List Int) : Bool := puzzleFits p g && decide (gridFilled g p.size = g.length)
/-- The grids that fit, found cell by cell: so many cells are left, from this one on. -/
def search (n : Int) (rules : List Rule) : Nat → Nat → List Int → List (List Int)
  | 0, _, g => [g]
  | k + 1, at_, g =>
    if pos (g[at_]?.getD 0) = true then search n rules k (at_ + 1) g
    else (List.range n.toNat).flatMap fun (v : Nat) =>
      if fits0 n rules (g.set at_ ((v : Int) + 1)) = true then search n rules k (at_ + 1) (g.set at_ ((v : Int) + 1)) else []
def sols (p : Puzzle) (start : List Int) : List (List Int) := if puzzleFits p start = true then search p.size p.rules start.length 0 start else []
def countSols (p : Puzzle) (most : Int) : Int := if puzzleOk p = true ∧ 1 ≤ most ∧ most ≤ 600 then ((sols p p.given).take most.toNat).length else -1

/-! ### Techniques -/
def startMasks (p : Puzzle) : List Int := if puzzleOk p = true then gridMasks p.given p.size else []
def single (m : Int) : Bool := decide (onlyV m ≠ 0)
def sameLine (n i j : Int) : Bool := decide (i / n = j / n) || decide (i % n = j % n)
def singJ (ms : List Int) (n : Int) (k : Nat) (out : List Int) (j : Nat) : List Int :=
  if j ≠ k ∧ sameLine n j k = true then out.set j (subI (out[j]?.getD 0) (ms[k]?.getD 0)) else out
def sing1 (ms : List Int) (n : Int) (out : List Int) (k : Nat) : List Int :=
  if single (ms[k]?.getD 0) = true then (List.range ms.length).foldl (singJ ms n k) out else out
def narrow1 (ms : List Int) (n : Int) : List Int := if masksOk ms n = true then (List.range ms.length).foldl (sing1 ms n) ms else []
def hid1 (ms : List Int) (n line : Int) (out : List Int) (v : Int) : List Int :=
  match (lineCells n line).filter fun c => bit (getI ms c) v with
  | [c] => out.set c.toNat (andI (getI out c) (one v))
  | _ => out
def hidV (ms : List Int) (n line : Int) (out : List Int) (v : Nat) : List Int := hid1 ms n line out ((v : Int) + 1)
def hidL (ms : List Int) (n : Int) (out : List Int) (l : Nat) : List Int := (List.range n.toNat).foldl (hidV ms n l) out
def narrow2 (ms : List Int) (n : Int) : List Int := if masksOk ms n = true then (List.range (2 * n).toNat).foldl (hidL ms n) ms else []
/-- Two cells of a line, by their places in it: what is taken away from another one. -/
def pairK (ms : List Int) (n line : Int) (i j : Nat) (out : List Int) (q : Nat) : List Int :=
  if q ≠ i ∧ q ≠ j then out.set ((lineCells n line)[q]?.getD 0).toNat (subI (getI out ((lineCells n line)[q]?.getD 0)) (getI ms ((lineCells n line)[i]?.getD 0))) else out
def pairC (ms : List Int) (n line : Int) (i j : Nat) : Bool :=
  decide (getI ms ((lineCells n line)[i]?.getD 0) = getI ms ((lineCells n line)[j]?.getD 0)) && decide ((maskVals (getI ms ((lineCells n line)[i]?.getD 0))).length = 2)
def pair1 (ms : List Int) (n line : Int) (i : Nat) (out : List Int) (j : Nat) : List Int :=
  if pairC ms n line i j = true then (List.range n.toNat).foldl (pairK ms n line i j) out else out
def pairI (ms : List Int) (n line : Int) (out : List Int) (i : Nat) : List Int := (List.range i).foldl (pair1 ms n line i) out
def pairL (ms : List Int) (n : Int) (out : List Int) (l : Nat) : List Int := (List.range n.toNat).foldl (pairI ms n l) out
def narrow3 (ms : List Int) (n : Int) : List Int := if masksOk ms n = true then (List.range (2 * n).toNat).foldl (pairL ms n) ms else []
def setAll (out : List Int) : List Int → List Int → List Int
  | c :: r, m :: s => setAll (out.set c.toNat m) r s
  | _, _ => out
def rule1 (out : List Int) (r : Rule) : List Int := setAll out r.cells (ruleMasks r (ownOf r out))
def narrow4 (p : Puzzle) (ms : List Int) : List Int := if puzzleOk p = true ∧ masksOk ms p.size = true then p.rules.foldl rule1 ms else []
def narrowBy (p : Puzzle) (ms : List Int) (t : Int) : List Int :=
  if puzzleOk p = true ∧ masksOk ms p.size = true then
    if t = 1 then narrow1 ms p.size else if t = 2 then narrow2 ms p.size else if t = 3 then narrow3 ms p.size else if t = 4 then narrow4 p ms else []
  else []
/-- The first technique, from this one on, so many, that changes something. -/
def nextRound (p : Puzzle) (ms : List Int) : Nat → Int → Option (List Int × Int)
  | 0, _ => none
  | k + 1, t => if narrowBy p ms t ≠ ms then some (narrowBy p ms t, t) else nextRound p ms k (t + 1)
end Go.Proofs.Ytaicenafkjbnoaa
