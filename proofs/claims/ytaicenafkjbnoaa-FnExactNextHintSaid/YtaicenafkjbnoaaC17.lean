/- Contracts: copies of puzzles, techniques (program). -/
import Derived.Test.YtaicenafkjbnoaaC16
set_option linter.unusedVariables false
set_option linter.unusedSimpArgs false
namespace Go.Proofs.Ytaicenafkjbnoaa
open Go Go.AM
set_option maxRecDepth 100000

theorem c_copyPuzzle (p : Puzzle) (hp : p.given.length ≤ 1000000) (hr : p.rules.length ≤ 1000000) (hc : ∀ r ∈ p.rules, r.cells.length ≤ 1000000) : CallsA Try.prog 89 [p.v false] [] fun x ho => ho = [] ∧ x = .v (p.v true) := by
  unfold Puzzle.v
  simp only [rulesD]
  refine CallsA.of (tv := tyOf Try.prog) (fn := Try.f89) prg.tv Try.func89 rfl rfl (by simp) ?_
  refine WP.seq ?_
  refine WP.regN prg (by kernel_rfl) ?_ -- region 0
  refine WN.op prg (by simp) (by simp; rfl) (by simp) ?_
  refine WN.op prg (by simp) (by simp; rfl) (by simp) ?_
  refine WN.keep [1, 2] ?_
  refine WP.seq ?_
  refine WP.reg prg (by kernel_rfl) ?_ -- region 1 DRAWS
  refine WS.d (by simp) (by simp; rfl) (by simp) (by kernel_rfl) ?_
  refine WS.d (by simp) (by simp; rfl) (by first | (simp; done) | (simp; omega)) (by kernel_rfl) ?_
  refine WS.d (by simp) (by simp; rfl) (by simp) (by kernel_rfl) ?_
  refine WS.d (by simp) (by simp; rfl) (by first | (simp; done) | (simp; omega)) (by kernel_rfl) ?_
  refine WS.callD [] [] (by simp) rfl (by simp; rfl) (by simp) (CallsA.at (by simp) (by simp) (c_clone p.given hp)) (by kernel_rfl) ⟨_, _, rfl, rfl⟩ ?_
  rintro _ _ ⟨rfl, rfl⟩
  refine ⟨_, by simp; rfl, ?_⟩
  refine WS.d (by simp) (by simp; rfl) (by simp) (by kernel_rfl) ?_
  refine WS.d (by simp) (by simp; rfl) (by simp) (by kernel_rfl) ?_
  refine WS.d (by simp) (by simp; rfl) (by first | (simp; done) | (simp; omega)) (by kernel_rfl) ?_
  refine WS.keep [1, 2, 3] ?_
  refine WP.seq ?_
  refine WP.seq ?_
  refine WP.regN prg (by kernel_rfl) ?_ -- region 2
  refine WN.op prg (by simp) (by simp; rfl) (by simp) ?_
  refine WN.op prg (by simp) (by simp; rfl) (by first | (simp; done) | (simp; omega)) ?_
  refine WN.op prg (by simp) (by simp; rfl) (by simp) ?_
  refine WN.op prg (by simp) (by simp; rfl) (by simp) ?_
  refine WN.keep [2, 3, 13, 14, 15] ?_
  refine WP.block ?_
  refine WP.weaker (Weak.ghost 25 (.recs 3 []) (es := 3) (by omega) (by simp) rfl (by omega)) ?_
  refine WP.weaker (Weak.nilB (b := 24) (v := 0) (o := 2) (cs := [.int .i64 p.size, .osl 80 0 0 p.given.length, .nil]) (id := 25) (ver := 0) (fr := true) (d := .recs 3 []) (by simp) (by simp) (by simp)) ?_
  refine WP.loopU (p.rules.length) (fun k => [(15, .v (.c (.int .i64 (k))))]) (fun k => [(24, .box 0 [.int .i64 p.size, .osl 80 0 0 p.given.length, .osl 25 k 0 k]), (25, .arr k true (.recs 3 ((p.rules.take k).map Rule.d)))]) (fun k => True) (fun k => by simp [putAll]; rfl) (fun k => by simp; rfl) (by simp) (by simp) (by simp) ?_
  intro k hk _
  refine WP.seq ?_
  refine WP.regN prg (by kernel_rfl) ?_ -- region 3
  refine WN.op prg (by simp) (by simp; rfl) (by simp) ?_
  refine WN.keep [2, 3, 13, 14, 15, 16] ?_
  refine WP.seq ?_
  refine WP.cond (by first | rfl | (simp; rfl)) (fun hb => ?_) (fun hb => ?_)
  · try simp at hb
    refine WP.skip ?_
    refine WP.seq ?_
    refine WP.block ?_
    refine WP.seq ?_
    refine WP.regN prg (by kernel_rfl) ?_ -- region 4
    obtain ⟨r, hr⟩ : ∃ r, p.rules[k]? = some r := ⟨_, List.getElem?_eq_getElem (by omega)⟩
    refine WN.op prg (by simp) (by simp; rfl) (by first | (simp; done) | (simp; omega)) ?_
    refine WN.op prg (by simp) (by simp [hr, Rule.d]; rfl) (by simp) ?_
    refine WN.op prg (by simp) (by simp; rfl) (by simp) ?_
    refine WN.op prg (by simp) (by simp; rfl) (by first | (simp; done) | (simp; omega)) ?_
    refine WN.keep [2, 3, 5, 13, 14, 15] ?_
    refine WP.seq ?_
    refine WP.regN prg (by kernel_rfl) ?_ -- region 5
    refine WN.op prg (by simp) (by simp; rfl) (by simp) ?_
    refine WN.op prg (by simp) (by simp; rfl) (by first | (simp; done) | (simp; omega)) ?_
    refine WN.call prg [] [] (by simp) rfl (by simp; rfl) (by simp) (CallsA.at (by simp) (by simp) (c_clone r.cells (hc r (List.mem_of_getElem? hr)))) ?_
    rintro _ _ ⟨rfl, rfl⟩
    refine ⟨_, by simp; rfl, ?_⟩
    refine WN.op prg (by simp) (by simp; rfl) (by simp) ?_
    refine WN.op prg (by simp) (by simp; rfl) (by first | (simp; done) | (simp; omega)) ?_
    refine WN.keep [2, 3, 5, 13, 14, 15] ?_
    refine WP.regN prg (by kernel_rfl) ?_ -- region 6
    refine WN.op prg (by simp) (by simp; rfl) (by simp) ?_
    refine WN.op prg (by simp) (by simp; rfl) (by first | (simp; done) | (simp; omega)) ?_
    refine WN.op prg (by simp) (by simp; rfl) (by first | (simp; done) | (simp; omega)) ?_
    refine WN.op prg (by simp) (by simp; rfl) (by simp) ?_
    refine WN.op prg (by simp) (by simp; rfl) (by first | (simp; done) | (simp; omega)) ?_
    refine WN.op prg (by simp) (by simp; rfl) (by simp) ?_
    refine WN.op prg (by simp) (by simp; rfl) (by first | (simp; done) | (simp; omega)) ?_
    refine WN.keep [2, 3, 13, 14, 15] ?_
    refine WP.regN prg (by kernel_rfl) ?_ -- region 7
    refine WN.tidy [2, 3, 13, 14, 15] [25, 8, 16, 80, 24] (by simp; rfl) ?_
    refine WN.op prg (by simp) (by simp; rfl) (by simp) ?_
    refine WN.op prg (by simp) (by simp; rfl) (by simp) ?_
    refine WN.keep [2, 3, 13, 14, 15] ?_
    have hx : (p.rules.map Rule.d)[k]? = some r.d := by simp [hr]
    have hkl : k < p.rules.length := by omega
    exact ⟨hkl, trivial, by simp [take_snoc hx, Rule.d, wrap_id (n := (k : Int) + 1) (by omega) (by omega)]⟩
  · try simp at hb
    refine WP.exit ?_
    refine WP.seq ?_
    refine WP.regN prg (by kernel_rfl) ?_ -- region 8
    refine WN.op prg (by simp) (by simp; rfl) (by first | (simp; done) | (simp; omega)) ?_
    refine WN.op prg (by simp) (by simp; rfl) (by first | (simp; done) | (simp; omega)) ?_
    refine WN.keep [2] ?_
    refine WP.ret (DoneQ.ret [] (by simp; rfl) (by simp; rfl) ?_)
    have hkk : k = p.rules.length := by omega
    exact ⟨rfl, by simp [hkk, List.take_of_length_le]⟩
/-- The two cells of a row and a column of a cell, by a place in them. -/
def crossC (n : Int) (k q : Nat) (b : Nat) : Int := if b = 0 then (k : Int) / n * n + q else (q : Int) * n + (k : Int) % n
def crossB (ms : List Int) (n : Int) (k q : Nat) (out : List Int) (b : Nat) : List Int :=
  if crossC n k q b ≠ k then out.set (crossC n k q b).toNat (subI (out[(crossC n k q b).toNat]?.getD 0) (ms[k]?.getD 0)) else out
def crossQ (ms : List Int) (n : Int) (k : Nat) (out : List Int) (q : Nat) : List Int := (List.range 2).foldl (crossB ms n k q) out
theorem crossC_lt {n : Int} (h2 : 2 ≤ n) (h4 : n ≤ 4) {k q : Nat} (hk : (k : Int) < n * n) (hq : (q : Int) < n) (b : Nat) : 0 ≤ crossC n k q b ∧ crossC n k q b < n * n := by
  have : n = 2 ∨ n = 3 ∨ n = 4 := by omega
  unfold crossC
  rcases this with rfl | rfl | rfl <;> (split <;> omega)
def subAt (m : Int) (out : List Int) (j : Nat) : List Int := out.set j (subI (out[j]?.getD 0) m)
theorem subAt_comm (m : Int) (out : List Int) (i j : Nat) : subAt m (subAt m out i) j = subAt m (subAt m out j) i := by
  by_cases e : i = j
  · subst e; rfl
  · unfold subAt
    rw [List.getElem?_set_ne e, List.getElem?_set_ne (fun h => e h.symm), List.set_comm _ _ e]
theorem foldl_perm {m : Int} {l l' : List Nat} (h : l.Perm l') (out : List Int) : l.foldl (subAt m) out = l'.foldl (subAt m) out :=
  h.foldl_eq' (fun x _ y _ z => subAt_comm m z x y) out
def posA (n : Int) (N k : Nat) : List Nat := (List.range N).filter fun j => decide (j ≠ k) && sameLine n j k
def posB (n : Int) (k : Nat) : List Nat := ((List.range n.toNat).flatMap fun q => (List.range 2).map fun b => (crossC n k q b).toNat).filter fun j => decide (j ≠ k)
theorem pos_perm {n : Int} (h2 : 2 ≤ n) (h4 : n ≤ 4) {k : Nat} (hk : (k : Int) < n * n) : (posA n (n * n).toNat k).Perm (posB n k) := by
  rw [← List.isPerm_iff]
  have : n = 2 ∨ n = 3 ∨ n = 4 := by omega
  rcases this with rfl | rfl | rfl
  · have h : ∀ k : Fin 4, (posA 2 4 k).isPerm (posB 2 k) = true := by decide +kernel
    exact h ⟨k, by omega⟩
  · have h : ∀ k : Fin 9, (posA 3 9 k).isPerm (posB 3 k) = true := by decide +kernel
    exact h ⟨k, by omega⟩
  · have h : ∀ k : Fin 16, (posA 4 16 k).isPerm (posB 4 k) = true := by decide +kernel
    exact h ⟨k, by omega⟩
theorem foldl_if {α β : Type} (f : β → α → β) (c : α → Bool) : ∀ (l : List α) (b : β), l.foldl (fun b a => if c a = true then f b a else b) b = (l.filter c).foldl f b
  | [], b => rfl
  | a :: l, b => by
    simp only [List.foldl_cons, List.filter_cons]
    split
    · rename_i h
      rw [List.foldl_cons]
      exact foldl_if f c l _
    · exact foldl_if f c l _
theorem foldl_congr' {α β : Type} {f g : β → α → β} : ∀ (l : List α) (b : β), (∀ b, ∀ a ∈ l, f b a = g b a) → l.foldl f b = l.foldl g b
  | [], b, _ => rfl
  | a :: l, b, h => by
    simp only [List.foldl_cons]
    rw [h b a (by simp)]
    exact foldl_congr' l _ fun b a ha => h b a (by simp [ha])
def singX (ms : List Int) (n : Int) (out : List Int) (k : Nat) : List Int :=
  if single (ms[k]?.getD 0) = true then (List.range n.toNat).foldl (crossQ ms n k) out else out
theorem singX_eq {ms out : List Int} {n : Int} {k : Nat} (h2 : 2 ≤ n) (h4 : n ≤ 4) (hk : (k : Int) < n * n) (hl : (ms.length : Int) = n * n) : sing1 ms n out k = singX ms n out k := by
  unfold sing1 singX
  split
  · have e1 : (List.range ms.length).foldl (singJ ms n k) out = (posA n (n * n).toNat k).foldl (subAt (ms[k]?.getD 0)) out := by
      rw [show (n * n).toNat = ms.length by omega]
      unfold posA
      rw [← foldl_if]
      refine foldl_congr' _ _ fun b j _ => ?_
      unfold singJ subAt
      simp only [Bool.and_eq_true, decide_eq_true_eq]
    have e2 : (List.range n.toNat).foldl (crossQ ms n k) out = (posB n k).foldl (subAt (ms[k]?.getD 0)) out := by
      unfold posB
      rw [← foldl_if, List.foldl_flatMap]
      refine foldl_congr' _ _ fun b q hq => ?_
      have hq' := List.mem_range.1 hq
      unfold crossQ
      rw [List.foldl_map]
      refine foldl_congr' _ _ fun b j _ => ?_
      have hc := crossC_lt h2 h4 hk (show (q : Int) < n by omega) j
      unfold crossB subAt
      by_cases e : crossC n k q j = k
      · rw [if_neg (by simp [e]), if_neg (by simp [e])]
      · rw [if_pos e, if_pos (by simp; omega)]
    rw [e1, e2, foldl_perm (pos_perm h2 h4 hk)]
  · rfl
theorem crossB_ok {ms out : List Int} {n : Int} {k q N : Nat} (b : Nat) (h : FOk N out) : FOk N (crossB ms n k q out b) := by
  unfold crossB
  split
  · have h1 := h.get (crossC n k q b).toNat
    have h2 := subI_le (b := ms[k]?.getD 0) h1.1
    exact h.set _ h2.1 (by omega)
  · exact h
theorem crossQ_ok {ms out : List Int} {n : Int} {k N : Nat} (q : Nat) (h : FOk N out) : FOk N (crossQ ms n k out q) := foldl_ok (P := FOk N) (fun b a hb => crossB_ok a hb) _ _ h
theorem singX_ok {ms out : List Int} {n : Int} {N : Nat} (k : Nat) (h : FOk N out) : FOk N (singX ms n out k) := by
  unfold singX
  split
  · exact foldl_ok (P := FOk N) (fun b a hb => crossQ_ok a hb) _ _ h
  · exact h
def crossL (n : Int) (k q : Nat) : List Int := [crossC n k q 0, crossC n k q 1]
@[simp] theorem crossL_len (n : Int) (k q : Nat) : (crossL n k q).length = 2 := rfl
theorem crossL_get {n : Int} {k q b : Nat} (h : b < 2) : (crossL n k q)[b]?.getD 0 = crossC n k q b := by
  have : b = 0 ∨ b = 1 := by omega
  rcases this with rfl | rfl <;> rfl
theorem cross_w {n : Int} (h2 : 2 ≤ n) (h4 : n ≤ 4) {k q : Nat} (hk : (k : Int) < n * n) (hq : (q : Int) < n) :
    IntKind.i64.wrap (IntKind.i64.wrap (IntKind.i64.wrap ((k : Int) / n) * n) + q) = crossC n k q 0 ∧ IntKind.i64.wrap (IntKind.i64.wrap ((q : Int) * n) + (k : Int).tmod n) = crossC n k q 1 := by
  have : n = 2 ∨ n = 3 ∨ n = 4 := by omega
  rw [Int.tmod_eq_emod_of_nonneg (by omega)]
  unfold crossC
  rw [if_pos rfl, if_neg (by omega)]
  rcases this with rfl | rfl | rfl
  all_goals
    refine ⟨?_, ?_⟩
    · rw [wrap_id (n := (k : Int) / _) (by omega) (by omega), wrap_id (n := (k : Int) / _ * _) (by omega) (by omega), wrap_id (by omega) (by omega)]
    · rw [wrap_id (n := (q : Int) * _) (by omega) (by omega), wrap_id (by omega) (by omega)]
theorem c_implNarrow1 (ms : List Int) (n : Int) (hm : masksOk ms n = true) : CallsA Try.prog 165 [.c (.dsl false (.ints .i64 (ms))), .c (.int .i64 (n))] [] fun r ho => ho = [] ∧ r = .v (.c (.dsl true (.ints .i64 (narrow1 ms n)))) := by
  have hml := masks_len hm
  obtain ⟨h2, h4, hll, hall⟩ := masksOk_iff.1 hm
  refine CallsA.of (tv := tyOf Try.prog) (fn := Try.f165) prg.tv Try.func165 rfl rfl (by simp) ?_
  refine WP.seq ?_
  refine WP.regN prg (by kernel_rfl) ?_ -- region 0
  refine WN.op prg (by simp) (by simp; rfl) (by simp) ?_
  refine WN.keep [0, 1] ?_
  refine WP.seq ?_
  refine WP.seq ?_
  refine WP.regN prg (by kernel_rfl) ?_ -- region 1
  refine WN.op prg (by simp) (by simp; rfl) (by simp) ?_
  refine WN.op prg (by simp) (by simp; rfl) (by simp) ?_
  refine WN.call prg [] [] (by simp) rfl (by simp; rfl) (by simp) (CallsA.at (by simp) (by simp) (c_implMasksValid ms n hm)) ?_
  rintro _ _ ⟨rfl, rfl⟩
  refine ⟨_, by simp; rfl, ?_⟩
  refine WN.op prg (by simp) (by simp; rfl) (by simp) ?_
  refine WN.keep [0, 1, 14] ?_
  refine WP.cond (by first | rfl | (simp; rfl)) (fun hb => ?_) (fun hb => ?_)
  · exact absurd hb (by simp)
  · try simp at hb
    refine WP.skip ?_
    refine WP.seq ?_
    refine WP.regN prg (by kernel_rfl) ?_ -- region 3
    refine WN.op prg (by simp) (by simp; rfl) (by simp) ?_
    refine WN.call prg [] [] (by simp) rfl (by simp; rfl) (by simp) (CallsA.at (by simp) (by simp) (c_clone ms (by omega))) ?_
    rintro _ _ ⟨rfl, rfl⟩
    refine ⟨_, by simp; rfl, ?_⟩
    refine WN.op prg (by simp) (by simp; rfl) (by simp) ?_
    refine WN.keep [0, 1, 5] ?_
    refine WP.seq ?_
    refine WP.seq ?_
    refine WP.regN prg (by kernel_rfl) ?_ -- region 4
    refine WN.op prg (by simp) (by simp; rfl) (by simp) ?_
    refine WN.op prg (by simp) (by simp; rfl) (by simp) ?_
    refine WN.op prg (by simp) (by simp; rfl) (by simp) ?_
    refine WN.keep [1, 5, 17, 18, 19] ?_
    refine WP.block ?_
    refine WP.loopU (ms.length) (fun k => [(19, .v (.c (.int .i64 (k))))]) (fun k => [(128, .arr 0 true (.ints .i64 ((List.range k).foldl (singX ms n) ms)))]) (fun k => True) (fun k => by simp [putAll]; rfl) (fun k => by simp; rfl) (by simp) (by simp) (by simp) ?_
    intro k hk _
    have hok : FOk ms.length ((List.range k).foldl (singX ms n) ms) := foldl_ok (P := FOk ms.length) (fun b a hb => singX_ok a hb) _ _ (fok_masks hm)
    refine WP.seq ?_
    refine WP.regN prg (by kernel_rfl) ?_ -- region 5
    refine WN.op prg (by simp) (by simp; rfl) (by simp) ?_
    refine WN.keep [1, 5, 17, 18, 19, 20] ?_
    refine WP.seq ?_
    refine WP.cond (by first | rfl | (simp; rfl)) (fun hb => ?_) (fun hb => ?_)
    · try simp at hb
      refine WP.skip ?_
      refine WP.seq ?_
      refine WP.block ?_
      refine WP.seq ?_
      refine WP.regN prg (by kernel_rfl) ?_ -- region 6
      refine WN.op prg (by simp) (by simp; rfl) (by simp) ?_
      refine WN.op prg (by simp) (by simp; rfl) (by first | (simp; done) | (simp; omega)) ?_
      refine WN.op prg (by simp) (by simp; rfl) (by first | (simp; done) | (simp; omega)) ?_
      refine WN.op prg (by simp) (by simp; rfl) (by simp) ?_
      refine WN.op prg (by simp) (by simp; rfl) (by simp) ?_
      refine WN.keep [1, 5, 6, 7, 17, 18, 19] ?_
      refine WP.seq ?_
      refine WP.seq ?_
      refine WP.regN prg (by kernel_rfl) ?_ -- region 7
      refine WN.op prg (by simp) (by simp; rfl) (by simp) ?_
      refine WN.call prg [] [] (by simp) rfl (by simp; rfl) (by simp) (CallsA.at (by simp) (by simp) (c_onlyValue (ms[k]?.getD 0))) ?_
      rintro _ _ ⟨rfl, rfl⟩
      refine ⟨_, by simp; rfl, ?_⟩
      refine WN.op prg (by simp) (by simp; rfl) (by simp) ?_
      refine WN.keep [1, 5, 6, 7, 17, 18, 19, 26] ?_
      refine WP.cond (by first | rfl | (simp; rfl)) (fun hb => ?_) (fun hb => ?_)
      · try simp at hb
        refine WP.exit ?_
        refine WP.regN prg (by kernel_rfl) ?_ -- region 18
        refine WN.op prg (by simp) (by simp; rfl) (by simp) ?_
        refine WN.op prg (by simp) (by simp; rfl) (by simp) ?_
        refine WN.keep [1, 5, 17, 18, 19] ?_
        have hs : single (ms[k]?.getD 0) = false := by simp [single, hb]
        exact ⟨by omega, trivial, by simp [foldl_range, singX, hs, wrap_id (n := (k : Int) + 1) (by omega) (by omega)]⟩
      · try simp at hb
        refine WP.skip ?_
        refine WP.seq ?_
        refine WP.regN prg (by kernel_rfl) ?_ -- region 8
        refine WN.op prg (by simp) (by simp; rfl) (by simp) ?_
        refine WN.op prg (by simp) (by simp; rfl) (by simp) ?_
        refine WN.keep [1, 5, 6, 7, 17, 18, 19, 27, 28] ?_
        refine WP.block ?_
        have hs : single (ms[k]?.getD 0) = true := by simp [single, hb]
        have hkl : k < ms.length := by omega
        obtain ⟨m0, m1, m2⟩ := masks32 hm hkl
        refine WP.loopU (n.toNat) (fun q => [(28, .v (.c (.int .i64 (q))))]) (fun q => [(128, .arr 0 true (.ints .i64 ((List.range q).foldl (crossQ ms n k) ((List.range k).foldl (singX ms n) ms))))]) (fun q => True) (fun k => by simp [putAll]; rfl) (fun k => by simp; rfl) (by simp) (by simp) (by simp) ?_
        intro q hk _
        have hoq : FOk ms.length ((List.range q).foldl (crossQ ms n k) ((List.range k).foldl (singX ms n) ms)) := foldl_ok (P := FOk ms.length) (fun b a hb => crossQ_ok a hb) _ _ hok
        refine WP.seq ?_
        refine WP.regN prg (by kernel_rfl) ?_ -- region 9
        refine WN.op prg (by simp) (by simp; rfl) (by simp) ?_
        refine WN.keep [1, 5, 6, 7, 17, 18, 19, 27, 28, 29] ?_
        refine WP.seq ?_
        refine WP.cond (by first | rfl | (simp; rfl)) (fun hb => ?_) (fun hb => ?_)
        · try simp at hb
          refine WP.skip ?_
          refine WP.seq ?_
          refine WP.block ?_
          refine WP.seq ?_
          refine WP.regN prg (by kernel_rfl) ?_ -- region 10
          refine WN.op prg (by simp) (by simp; rfl) (by simp) ?_
          refine WN.op prg (by simp) (by simp; rfl) (by simp) ?_
          refine WN.keep [1, 5, 6, 7, 8, 17, 18, 19, 27, 28] ?_
          refine WP.seq ?_
          refine WP.reg prg (by kernel_rfl) ?_ -- region 11 DRAWS
          refine WS.d (by simp) (by simp; rfl) (by simp) (by kernel_rfl) ?_
          refine WS.d (by simp) (by simp; rfl) (by simp) (by kernel_rfl) ?_
          refine WS.d (by simp) (by simp; rfl) (by first | (simp; done) | (simp; omega)) (by kernel_rfl) ?_
          refine WS.d (by simp) (by simp; rfl) (by simp) (by kernel_rfl) ?_
          refine WS.d (by simp) (by simp; rfl) (by simp) (by kernel_rfl) ?_
          refine WS.d (by simp) (by simp; rfl) (by simp) (by kernel_rfl) ?_
          refine WS.d (by simp) (by simp; rfl) (by simp) (by kernel_rfl) ?_
          refine WS.d (by simp) (by simp; rfl) (by simp) (by kernel_rfl) ?_
          refine WS.d (by simp) (by simp; rfl) (by simp) (by kernel_rfl) ?_
          refine WS.d (by simp) (by simp; rfl) (by simp) (by kernel_rfl) ?_
          refine WS.d (by simp) (by simp; rfl) (by simp) (by kernel_rfl) ?_
          refine WS.d (by simp) (by simp; rfl) (by simp) (by kernel_rfl) ?_
          refine WS.d (by simp) (by simp; rfl) (by first | (simp; done) | (simp; omega)) (by kernel_rfl) ?_
          refine WS.d (by simp) (by simp; rfl) (by simp) (by kernel_rfl) ?_
          refine WS.d (by simp) (by simp; rfl) (by simp) (by kernel_rfl) ?_
          refine WS.d (by simp) (by simp; rfl) (by simp) (by kernel_rfl) ?_
          refine WS.d (by simp) (by simp; rfl) (by simp) (by kernel_rfl) ?_
          refine WS.keep [1, 5, 6, 7, 17, 18, 19, 27, 28, 45, 46, 47] ?_
          refine WP.block ?_
          have hqn : (q : Int) < n := by omega
          have hkn : (k : Int) < n * n := by omega
          obtain ⟨hA0, hA1⟩ := cross_w h2 h4 hkn hqn
          refine WP.loopU (2) (fun b => [(47, .v (.c (.int .i64 (b))))]) (fun b => [(128, .arr 0 true (.ints .i64 ((List.range b).foldl (crossB ms n k q) ((List.range q).foldl (crossQ ms n k) ((List.range k).foldl (singX ms n) ms))))), (360, .arr 0 true (.ints .i64 (crossL n k q)))]) (fun b => True) (fun k => by simp [putAll]; rfl) (fun k => by simp; rfl) (by simp) (by simp) (by simp [hA0, hA1, crossL]) ?_
          intro b hk _
          have hob : FOk ms.length ((List.range b).foldl (crossB ms n k q) ((List.range q).foldl (crossQ ms n k) ((List.range k).foldl (singX ms n) ms))) := foldl_ok (P := FOk ms.length) (fun b a hb => crossB_ok a hb) _ _ hoq
          have hob1 := hob.1
          have hcr : b < 2 → 0 ≤ (crossL n k q)[b]?.getD 0 ∧ (crossL n k q)[b]?.getD 0 < ms.length := fun h => by
            rw [crossL_get h]
            have := crossC_lt h2 h4 hkn hqn b
            omega
          refine WP.seq ?_
          refine WP.regN prg (by kernel_rfl) ?_ -- region 12
          refine WN.op prg (by simp) (by simp; rfl) (by simp) ?_
          refine WN.keep [1, 5, 6, 7, 17, 18, 19, 27, 28, 45, 46, 47, 48] ?_
          refine WP.seq ?_
          refine WP.cond (by first | rfl | (simp; rfl)) (fun hb => ?_) (fun hb => ?_)
          · try simp at hb
            refine WP.skip ?_
            refine WP.seq ?_
            refine WP.block ?_
            refine WP.seq ?_
            refine WP.regN prg (by kernel_rfl) ?_ -- region 13
            refine WN.op prg (by simp) (by simp; rfl) (by first | (simp; done) | (simp; omega)) ?_
            refine WN.op prg (by simp) (by simp; rfl) (by first | (simp; done) | (simp; omega)) ?_
            refine WN.op prg (by simp) (by simp; rfl) (by simp) ?_
            refine WN.keep [1, 5, 6, 7, 10, 17, 18, 19, 27, 28, 45, 46, 47] ?_
            refine WP.seq ?_
            refine WP.regN prg (by kernel_rfl) ?_ -- region 14
            refine WN.op prg (by simp) (by simp; rfl) (by simp) ?_
            refine WN.op prg (by simp) (by simp; rfl) (by simp) ?_
            refine WN.op prg (by simp) (by simp; rfl) (by simp) ?_
            refine WN.keep [1, 5, 6, 7, 10, 17, 18, 19, 27, 28, 45, 46, 47, 53] ?_
            refine WP.cond (by first | rfl | (simp; rfl)) (fun hb => ?_) (fun hb => ?_)
            · try simp at hb
              refine WP.regN prg (by kernel_rfl) ?_ -- region 15
              refine WN.op prg (by simp) (by simp; rfl) (by simp) ?_
              refine WN.op prg (by simp) (by simp; rfl) (by simp) ?_
              refine WN.op prg (by simp) (by simp; rfl) (by first | (simp; done) | (simp; omega)) ?_
              refine WN.op prg (by simp) (by simp; rfl) (by first | (simp; done) | (simp; omega)) ?_
              refine WN.op prg (by simp) (by simp; rfl) (by simp) ?_
              refine WN.op prg (by simp) (by simp; rfl) (by simp) ?_
              refine WN.op prg (by simp) (by simp; rfl) (by first | (simp; done) | (simp; omega)) ?_
              refine WN.op prg (by simp) (by simp; rfl) (by first | (simp; done) | (simp; omega)) ?_
              refine WN.keep [1, 5, 6, 7, 17, 18, 19, 27, 28, 45, 46, 47] ?_
              refine WP.regN prg (by kernel_rfl) ?_ -- region 16
              refine WN.op prg (by simp) (by simp; rfl) (by simp) ?_
              refine WN.op prg (by simp) (by simp; rfl) (by simp) ?_
              refine WN.keep [1, 5, 6, 7, 17, 18, 19, 27, 28, 45, 46, 47] ?_
              have hb2 : b < 2 := by omega
              have hcl := crossL_get (n := n) (k := k) (q := q) hb2
              rw [hcl] at hb
              have g1 := hob.get (crossC n k q b).toNat
              exact ⟨hb2, trivial, by simp [foldl_range, crossB, hcl, hb, bits_andNot g1.1 g1.2 m0 m1, wrap_id (n := (b : Int) + 1) (by omega) (by omega)]⟩
            · try simp at hb
              refine WP.skip ?_
              refine WP.regN prg (by kernel_rfl) ?_ -- region 16
              refine WN.op prg (by simp) (by simp; rfl) (by simp) ?_
              refine WN.op prg (by simp) (by simp; rfl) (by simp) ?_
              refine WN.keep [1, 5, 6, 7, 17, 18, 19, 27, 28, 45, 46, 47] ?_
              have hb2 : b < 2 := by omega
              have hcl := crossL_get (n := n) (k := k) (q := q) hb2
              rw [hcl] at hb
              exact ⟨hb2, trivial, by simp [foldl_range, crossB, hb, wrap_id (n := (b : Int) + 1) (by omega) (by omega)]⟩
          · try simp at hb
            refine WP.exit ?_
            refine WP.regN prg (by kernel_rfl) ?_ -- region 17
            refine WN.tidy [1, 5, 6, 7, 17, 18, 19, 27, 28] [128] (by simp; rfl) ?_
            refine WN.op prg (by simp) (by simp; rfl) (by simp) ?_
            refine WN.op prg (by simp) (by simp; rfl) (by simp) ?_
            refine WN.keep [1, 5, 6, 7, 17, 18, 19, 27, 28] ?_
            have hb2 : b = 2 := by omega
            subst hb2
            exact ⟨by omega, trivial, by simp only [foldl_range, crossQ]; simp [foldl_range, wrap_id (n := (q : Int) + 1) (by omega) (by omega)]⟩
        · try simp at hb
          refine WP.exit ?_
          refine WP.regN prg (by kernel_rfl) ?_ -- region 18
          refine WN.op prg (by simp) (by simp; rfl) (by simp) ?_
          refine WN.op prg (by simp) (by simp; rfl) (by simp) ?_
          refine WN.keep [1, 5, 17, 18, 19] ?_
          have hqn : q = n.toNat := by omega
          exact ⟨by omega, trivial, by simp [foldl_range, singX, hs, hqn, wrap_id (n := (k : Int) + 1) (by omega) (by omega)]⟩
    · try simp at hb
      refine WP.exit ?_
      refine WP.seq ?_
      refine WP.regN prg (by kernel_rfl) ?_ -- region 19
      refine WN.op prg (by simp) (by simp; rfl) (by simp) ?_
      refine WN.op prg (by simp) (by simp; rfl) (by simp) ?_
      refine WN.keep [4] ?_
      refine WP.ret (DoneQ.ret [] (by simp; rfl) (by simp; rfl) ?_)
      have hkk : k = ms.length := by omega
      have hl := hok.1
      rw [hkk] at hl
      have e : narrow1 ms n = (List.range ms.length).foldl (singX ms n) ms := by
        simp only [narrow1, hm, if_true]
        exact foldl_congr' _ _ fun b a ha => singX_eq h2 h4 (by have := List.mem_range.1 ha; omega) hll
      exact ⟨rfl, by simp [e, hkk, List.take_of_length_le, hl]⟩
end Go.Proofs.Ytaicenafkjbnoaa

