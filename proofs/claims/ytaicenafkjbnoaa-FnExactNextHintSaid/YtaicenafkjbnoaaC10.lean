/- Contracts: grids that fit puzzles. -/
import Derived.Test.YtaicenafkjbnoaaC9
set_option linter.unusedVariables false
set_option linter.unusedSimpArgs false
namespace Go.Proofs.Ytaicenafkjbnoaa
open Go Go.AM
set_option maxRecDepth 100000

def badA (gv g : List Int) (k : Nat) : Bool := pos (g[k]?.getD 0) && pos (gv[k]?.getD 0) && decide (g[k]?.getD 0 ≠ gv[k]?.getD 0)
theorem agree_iff {gv g : List Int} : agree gv g = true ↔ ∀ k, k < g.length → badA gv g k = false := by
  unfold agree
  rw [List.all_eq_true]
  simp only [List.mem_range]
  exact forall_congr' fun k => imp_congr_right fun _ => by unfold badA; cases pos (g[k]?.getD 0) <;> cases pos (gv[k]?.getD 0) <;> simp
theorem agree_bad {gv g : List Int} {k : Nat} (hk : k < g.length) (h : badA gv g k = true) : agree gv g = false := by
  rw [Bool.eq_false_iff]
  intro h'
  have := agree_iff.1 h' k hk
  rw [h] at this
  cases this
def fitsP (p : Puzzle) (g : List Int) : Bool := agree p.given g && fits0 p.size p.rules g
theorem puzzleOk_iff {p : Puzzle} : puzzleOk p = true ↔ gridOk p.given p.size = true ∧ p.rules.length ≤ 20 ∧ ∀ r ∈ p.rules, ruleOk r p.size = true := by
  simp [puzzleOk, and_assoc]
theorem puzzleOk_fits {p : Puzzle} (h : puzzleOk p = true) : p.Fits := by
  obtain ⟨h1, h2, h3⟩ := puzzleOk_iff.1 h
  have := grid_len h1
  exact ⟨by omega, by omega, fun r hr => by have := rule_len (h3 r hr); omega⟩
theorem grids_len {g g' : List Int} {n : Int} (h : gridOk g n = true) (h' : gridOk g' n = true) : g.length = g'.length := by
  have := (gridOk_size h).2.2
  have := (gridOk_size h').2.2
  omega
theorem c_l5Fits (p : Puzzle) (g : List Int) (hp : puzzleOk p = true) (hg : gridOk g p.size = true) : CallsA Try.prog 124 [p.v false, .c (.dsl false (.ints .i64 (g)))] [] fun x ho => ho = [] ∧ x = .v (.c (.bool (fitsP p g))) := by
  obtain ⟨hpg, hp20, hpr⟩ := puzzleOk_iff.1 hp
  have hgl := grid_len hg
  have hll := grids_len hpg hg
  unfold Puzzle.v rulesD
  refine CallsA.of (tv := tyOf Try.prog) (fn := Try.f124) prg.tv Try.func124 rfl rfl (by simp) ?_
  refine WP.seq ?_
  refine WP.regN prg (by kernel_rfl) ?_ -- region 0
  refine WN.op prg (by simp) (by simp; rfl) (by simp) ?_
  refine WN.op prg (by simp) (by simp; rfl) (by simp) ?_
  refine WN.keep [1, 2] ?_
  refine WP.seq ?_
  refine WP.seq ?_
  refine WP.regN prg (by kernel_rfl) ?_ -- region 1
  refine WN.op prg (by simp) (by simp; rfl) (by simp) ?_
  refine WN.keep [1, 2, 5] ?_
  refine WP.block ?_
  refine WP.loopU (g.length) (fun k => [(5, .v (.c (.int .i64 (k))))]) (fun k => []) (fun k => (∀ j, j < k → badA p.given g j = false)) (fun k => by simp [putAll]; rfl) (fun k => by simp; rfl) (by simp) (by simp) (by simp) ?_
  intro k hk hno
  refine WP.seq ?_
  refine WP.seq ?_
  refine WP.regN prg (by kernel_rfl) ?_ -- region 2
  refine WN.op prg (by simp) (by simp; rfl) (by simp) ?_
  refine WN.op prg (by simp) (by simp; rfl) (by simp) ?_
  refine WN.op prg (by simp) (by simp; rfl) (by simp) ?_
  refine WN.op prg (by simp) (by simp; rfl) (by simp) ?_
  refine WN.keep [1, 2, 5, 10] ?_
  refine WP.cond (by first | rfl | (simp; rfl)) (fun hb => ?_) (fun hb => ?_)
  · try simp at hb
    refine WP.skip ?_
    refine WP.seq ?_
    refine WP.block ?_
    refine WP.seq ?_
    refine WP.reg prg (by kernel_rfl) ?_ -- region 4 DRAWS
    refine WS.d (by simp) (by simp; rfl) (by simp) (by kernel_rfl) ?_
    refine WS.d (by simp) (by simp; rfl) (by first | (simp; done) | (simp; omega)) (by kernel_rfl) ?_
    refine WS.d (by simp) (by simp; rfl) (by simp) (by kernel_rfl) ?_
    refine WS.d (by simp) (by simp; rfl) (by first | (simp; done) | (simp; omega)) (by kernel_rfl) ?_
    refine WS.d (by simp) (by simp; rfl) (by first | (simp; done) | (simp; omega)) (by kernel_rfl) ?_
    refine WS.d (by simp) (by simp; rfl) (by simp) (by kernel_rfl) ?_
    refine WS.d (by simp) (by simp; rfl) (by simp) (by kernel_rfl) ?_
    refine WS.cases 19 (by simp; rfl) (fun hg19 => ?_) (fun hg19 => ?_)
    · refine WS.d (by simp) (by simp; rfl) (by simp) (by kernel_rfl) ?_
      refine WS.d (by simp) (by simp; rfl) (by simp) (by kernel_rfl) ?_
      refine WS.d (by simp) (by simp; rfl) (by first | (simp; done) | (simp; omega)) (by kernel_rfl) ?_
      refine WS.d (by simp) (by simp; rfl) (by first | (simp; done) | (simp; omega)) (by kernel_rfl) ?_
      refine WS.d (by simp) (by simp; rfl) (by simp) (by kernel_rfl) ?_
      refine WS.d (by simp) (by simp; rfl) (by simp) (by kernel_rfl) ?_
      refine WS.d (by simp) (by simp; rfl) (by simp) (by kernel_rfl) ?_
      refine WS.cases 26 (by simp; rfl) (fun hg26 => ?_) (fun hg26 => ?_)
      · refine WS.d (by simp) (by simp; rfl) (by simp) (by kernel_rfl) ?_
        refine WS.d (by simp) (by simp; rfl) (by simp) (by kernel_rfl) ?_
        refine WS.d (by simp) (by simp; rfl) (by first | (simp; done) | (simp; omega)) (by kernel_rfl) ?_
        refine WS.d (by simp) (by simp; rfl) (by first | (simp; done) | (simp; omega)) (by kernel_rfl) ?_
        refine WS.d (by simp) (by simp; rfl) (by simp) (by kernel_rfl) ?_
        refine WS.d (by simp) (by simp; rfl) (by first | (simp; done) | (simp; omega)) (by kernel_rfl) ?_
        refine WS.d (by simp) (by simp; rfl) (by simp) (by kernel_rfl) ?_
        refine WS.d (by simp) (by simp; rfl) (by first | (simp; done) | (simp; omega)) (by kernel_rfl) ?_
        refine WS.d (by simp) (by simp; rfl) (by first | (simp; done) | (simp; omega)) (by kernel_rfl) ?_
        refine WS.d (by simp) (by simp; rfl) (by simp) (by kernel_rfl) ?_
        refine WS.d (by simp) (by simp; rfl) (by simp) (by kernel_rfl) ?_
        refine WS.keep [1, 2, 5, 37] ?_
        refine WP.cond (by first | rfl | (simp; rfl)) (fun hb => ?_) (fun hb => ?_)
        · try simp at hb
          refine WP.seq ?_
          refine WP.regN prg (by kernel_rfl) ?_ -- region 5
          refine WN.op prg (by simp) (by simp; rfl) (by simp) ?_
          refine WN.keep [4] ?_
          refine WP.ret (DoneQ.ret [] (by simp; rfl) (by simp; rfl) ?_)
          have hbad : badA p.given g k = true := by
            simp at hg19 hg26
            simp [badA, pos, hg19, hg26, hb]
          exact ⟨rfl, by simp [fitsP, agree_bad (by omega) hbad]⟩
        · try simp at hb
          refine WP.skip ?_
          refine WP.regN prg (by kernel_rfl) ?_ -- region 3
          refine WN.op prg (by simp) (by simp; rfl) (by simp) ?_
          refine WN.op prg (by simp) (by simp; rfl) (by simp) ?_
          refine WN.op prg (by simp) (by simp; rfl) (by simp) ?_
          refine WN.keep [1, 2, 5] ?_
          have hbad : badA p.given g k = false := by
            simp [badA, pos]
            intro _ _
            simpa using hb
          refine ⟨by omega, fun j hj => ?_, by simp [wrap_id (n := (k : Int) + 1) (by omega) (by omega)]⟩
          by_cases h : j = k
          · subst h; exact hbad
          · exact hno j (by omega)
      · refine WS.skipD (by simp) (by kernel_rfl) ?_
        refine WS.skipD (by simp) (by kernel_rfl) ?_
        refine WS.skipD (by simp) (by kernel_rfl) ?_
        refine WS.skipD (by simp) (by kernel_rfl) ?_
        refine WS.skipD (by simp) (by kernel_rfl) ?_
        refine WS.skipD (by simp) (by kernel_rfl) ?_
        refine WS.skipD (by simp) (by kernel_rfl) ?_
        refine WS.skipD (by simp) (by kernel_rfl) ?_
        refine WS.skipD (by simp) (by kernel_rfl) ?_
        refine WS.skipD (by simp) (by kernel_rfl) ?_
        refine WS.d (by simp) (by simp; rfl) (by simp) (by kernel_rfl) ?_
        refine WS.keep [1, 2, 5, 37] ?_
        refine WP.cond (by first | rfl | (simp; rfl)) (fun hb => absurd hb (by simp)) (fun hb => ?_)
        refine WP.skip ?_
        refine WP.regN prg (by kernel_rfl) ?_ -- region 3
        refine WN.op prg (by simp) (by simp; rfl) (by simp) ?_
        refine WN.op prg (by simp) (by simp; rfl) (by simp) ?_
        refine WN.op prg (by simp) (by simp; rfl) (by simp) ?_
        refine WN.keep [1, 2, 5] ?_
        have hbad : badA p.given g k = false := by
          simp at hg26
          simp [badA, pos]
          intro h1 h2
          omega
        refine ⟨by omega, fun j hj => ?_, by simp [wrap_id (n := (k : Int) + 1) (by omega) (by omega)]⟩
        by_cases h : j = k
        · subst h; exact hbad
        · exact hno j (by omega)
    · refine WS.skipD (by simp) (by kernel_rfl) ?_
      refine WS.skipD (by simp) (by kernel_rfl) ?_
      refine WS.skipD (by simp) (by kernel_rfl) ?_
      refine WS.skipD (by simp) (by kernel_rfl) ?_
      refine WS.skipD (by simp) (by kernel_rfl) ?_
      refine WS.d (by simp) (by simp; rfl) (by simp) (by kernel_rfl) ?_
      refine WS.d (by simp) (by simp; rfl) (by simp) (by kernel_rfl) ?_
      refine WS.skipD (by simp) (by kernel_rfl) ?_
      refine WS.skipD (by simp) (by kernel_rfl) ?_
      refine WS.skipD (by simp) (by kernel_rfl) ?_
      refine WS.skipD (by simp) (by kernel_rfl) ?_
      refine WS.skipD (by simp) (by kernel_rfl) ?_
      refine WS.skipD (by simp) (by kernel_rfl) ?_
      refine WS.skipD (by simp) (by kernel_rfl) ?_
      refine WS.skipD (by simp) (by kernel_rfl) ?_
      refine WS.skipD (by simp) (by kernel_rfl) ?_
      refine WS.skipD (by simp) (by kernel_rfl) ?_
      refine WS.d (by simp) (by simp; rfl) (by simp) (by kernel_rfl) ?_
      refine WS.keep [1, 2, 5, 37] ?_
      refine WP.cond (by first | rfl | (simp; rfl)) (fun hb => absurd hb (by simp)) (fun hb => ?_)
      refine WP.skip ?_
      refine WP.regN prg (by kernel_rfl) ?_ -- region 3
      refine WN.op prg (by simp) (by simp; rfl) (by simp) ?_
      refine WN.op prg (by simp) (by simp; rfl) (by simp) ?_
      refine WN.op prg (by simp) (by simp; rfl) (by simp) ?_
      refine WN.keep [1, 2, 5] ?_
      have hbad : badA p.given g k = false := by
        simp at hg19
        simp [badA, pos]
        intro h1 h2
        omega
      refine ⟨by omega, fun j hj => ?_, by simp [wrap_id (n := (k : Int) + 1) (by omega) (by omega)]⟩
      by_cases h : j = k
      · subst h; exact hbad
      · exact hno j (by omega)
  · try simp at hb
    refine WP.exit ?_
    refine WP.seq ?_
    refine WP.seq ?_
    refine WP.regN prg (by kernel_rfl) ?_ -- region 6
    refine WN.op prg (by simp) (by simp; rfl) (by simp) ?_
    refine WN.keep [1, 2, 6] ?_
    refine WP.block ?_
    have hag : agree p.given g = true := agree_iff.2 fun j hj => hno j (by omega)
    refine WP.loopU (p.rules.length) (fun k => [(6, .v (.c (.int .i64 (k))))]) (fun k => []) (fun k => ((p.rules.take k).all (fun r => canHold r g p.size) = true)) (fun k => by simp [putAll]; rfl) (fun k => by simp; rfl) (by simp) (by simp) (by simp) ?_
    intro k hk hall
    refine WP.seq ?_
    refine WP.seq ?_
    refine WP.regN prg (by kernel_rfl) ?_ -- region 7
    refine WN.op prg (by simp) (by simp; rfl) (by simp) ?_
    refine WN.op prg (by simp) (by simp; rfl) (by simp) ?_
    refine WN.op prg (by simp) (by simp; rfl) (by first | (simp; done) | (simp; omega)) ?_
    refine WN.op prg (by simp) (by simp; rfl) (by simp) ?_
    refine WN.op prg (by simp) (by simp; rfl) (by simp) ?_
    refine WN.keep [1, 2, 6, 42] ?_
    refine WP.cond (by first | rfl | (simp; rfl)) (fun hb => ?_) (fun hb => ?_)
    · try simp at hb
      refine WP.skip ?_
      refine WP.seq ?_
      refine WP.block ?_
      refine WP.seq ?_
      refine WP.reg prg (by kernel_rfl) ?_ -- region 9 DRAWS
      obtain ⟨r, hr⟩ : ∃ r, p.rules[k]? = some r := ⟨_, List.getElem?_eq_getElem (by omega)⟩
      refine WS.d (by simp) (by simp; rfl) (by simp) (by kernel_rfl) ?_
      refine WS.d (by simp) (by simp; rfl) (by first | (simp; done) | (simp; omega)) (by kernel_rfl) ?_
      refine WS.d (by simp) (by simp; rfl) (by simp) (by kernel_rfl) ?_
      refine WS.d (by simp) (by simp; rfl) (by first | (simp; done) | (simp; omega)) (by kernel_rfl) ?_
      refine WS.d (by simp) (by simp [hr, Rule.d]; rfl) (by simp) (by kernel_rfl) ?_
      refine WS.d (by simp) (by simp; rfl) (by simp) (by kernel_rfl) ?_
      refine WS.d (by simp) (by simp; rfl) (by simp) (by kernel_rfl) ?_
      refine WS.d (by simp) (by simp; rfl) (by first | (simp; done) | (simp; omega)) (by kernel_rfl) ?_
      refine WS.callD [] [] (by simp) rfl (by simp; rfl) (by simp) (CallsA.at (by simp) (by simp) (c_rulePossible r g p.size (hpr r (List.mem_of_getElem? hr)) hg)) (by kernel_rfl) ⟨_, _, rfl, rfl⟩ ?_
      rintro _ _ ⟨rfl, rfl⟩
      refine ⟨_, by simp; rfl, ?_⟩
      refine WS.d (by simp) (by simp; rfl) (by simp) (by kernel_rfl) ?_
      refine WS.keep [1, 2, 6, 54] ?_
      refine WP.cond (by first | rfl | (simp; rfl)) (fun hb => ?_) (fun hb => ?_)
      · try simp at hb
        refine WP.seq ?_
        refine WP.regN prg (by kernel_rfl) ?_ -- region 10
        refine WN.op prg (by simp) (by simp; rfl) (by simp) ?_
        refine WN.keep [4] ?_
        refine WP.ret (DoneQ.ret [] (by simp; rfl) (by simp; rfl) ?_)
        have : fits0 p.size p.rules g = false := by simp only [fits0, all_fail' (p := fun r => canHold r g p.size) hr hb, Bool.and_false]
        exact ⟨rfl, by simp [fitsP, this]⟩
      · try simp at hb
        refine WP.skip ?_
        refine WP.regN prg (by kernel_rfl) ?_ -- region 8
        refine WN.op prg (by simp) (by simp; rfl) (by simp) ?_
        refine WN.op prg (by simp) (by simp; rfl) (by simp) ?_
        refine WN.op prg (by simp) (by simp; rfl) (by simp) ?_
        refine WN.keep [1, 2, 6] ?_
        exact ⟨by omega, all_step' hall hr hb, by simp [wrap_id (n := (k : Int) + 1) (by omega) (by omega)]⟩
    · try simp at hb
      refine WP.exit ?_
      refine WP.seq ?_
      refine WP.regN prg (by kernel_rfl) ?_ -- region 11
      refine WN.op prg (by simp) (by simp; rfl) (by simp) ?_
      refine WN.op prg (by simp) (by simp; rfl) (by simp) ?_
      refine WN.op prg (by simp) (by simp; rfl) (by first | (simp; done) | (simp; omega)) ?_
      refine WN.call prg [] [] (by simp) rfl (by simp; rfl) (by simp) (CallsA.at (by simp) (by simp) (c_l2Clash g p.size hg)) ?_
      rintro _ _ ⟨rfl, rfl⟩
      refine ⟨_, by simp; rfl, ?_⟩
      refine WN.op prg (by simp) (by simp; rfl) (by simp) ?_
      refine WN.op prg (by simp) (by simp; rfl) (by simp) ?_
      refine WN.keep [4] ?_
      refine WP.ret (DoneQ.ret [] (by simp; rfl) (by simp; rfl) ?_)
      have hkk : k = p.rules.length := by omega
      rw [hkk, List.take_length] at hall
      exact ⟨rfl, by simp only [fitsP, hag, fits0, hall, Bool.and_true, Bool.true_and]; simp⟩
theorem c_specPuzzleValid_ok (p : Puzzle) (hp : puzzleOk p = true) : CallsA Try.prog 76 [p.v false] [] fun x ho => ho = [] ∧ x = .v (.c (.bool (true))) := by
  have h := c_specPuzzleValid p (puzzleOk_fits hp)
  rwa [hp] at h
theorem c_implPuzzleValid_ok (p : Puzzle) (hp : puzzleOk p = true) : CallsA Try.prog 73 [p.v false] [] fun x ho => ho = [] ∧ x = .v (.c (.bool (true))) := by
  have h := c_implPuzzleValid p (puzzleOk_fits hp)
  rwa [hp] at h
theorem c_specPuzzleFits (p : Puzzle) (g : List Int) (hp : p.Fits) (hl : g.length ≤ 140737488355328) : CallsA Try.prog 81 [p.v false, .c (.dsl false (.ints .i64 (g)))] [] fun x ho => ho = [] ∧ x = .v (.c (.bool (puzzleFits p g))) := by
  unfold Puzzle.v rulesD
  refine CallsA.of (tv := tyOf Try.prog) (fn := Try.f81) prg.tv Try.func81 rfl rfl (by simp) ?_
  refine WP.seq ?_
  refine WP.regN prg (by kernel_rfl) ?_ -- region 0
  refine WN.op prg (by simp) (by simp; rfl) (by simp) ?_
  refine WN.op prg (by simp) (by simp; rfl) (by simp) ?_
  refine WN.keep [1, 2] ?_
  refine WP.seq ?_
  refine WP.regN prg (by kernel_rfl) ?_ -- region 1
  refine WN.op prg (by simp) (by simp; rfl) (by first | (simp; done) | (simp; omega)) ?_
  refine WN.call prg [] [] (by simp) rfl (by simp; rfl) (by simp) (CallsA.at (by simp) (by simp) (c_specPuzzleValid p hp)) ?_
  rintro _ _ ⟨rfl, rfl⟩
  refine ⟨_, by simp; rfl, ?_⟩
  refine WN.op prg (by simp) (by simp; rfl) (by simp) ?_
  apply WN.join (t := 12) 5 7
  · first | rfl | (simp; rfl)
  · intro hg7
    refine WN.op prg (by simp) (by simp; rfl) (by simp) ?_
    refine WN.op prg (by simp) (by simp; rfl) (by simp) ?_
    refine WN.op prg (by simp) (by simp; rfl) (by first | (simp; done) | (simp; omega)) ?_
    refine WN.call prg [] [] (by simp) rfl (by simp; rfl) (by simp) (CallsA.at (by simp) (by simp) (c_specGridValid g p.size hl)) ?_
    rintro _ _ ⟨rfl, rfl⟩
    refine ⟨_, by simp; rfl, ?_⟩
    refine WN.op prg (by simp) (by simp; rfl) (by simp) ?_
    exact WN.keep [12, 1, 2, 14, 15, 16] rfl
  · intro hg7
    refine WN.skip prg (by simp) ?_
    refine WN.skip prg (by simp) ?_
    refine WN.skip prg (by simp) ?_
    refine WN.skip prg (by simp) ?_
    refine WN.op prg (by simp) (by simp; rfl) (by simp) ?_
    exact WN.keep [12, 1, 2, 14, 15, 16] rfl
  refine WN.op prg (by simp) (by simp; rfl) (by simp) ?_
  apply WN.join (t := 17) 4 13
  · first | rfl | (simp; rfl)
  · intro hg13
    refine WN.op prg (by simp) (by simp; rfl) (by first | (simp; done) | (simp; omega)) ?_
    refine WN.op prg (by simp) (by simp; rfl) (by simp) ?_
    refine WN.call prg [] [] (by simp) rfl (by simp; rfl) (by simp) (CallsA.at (by simp) (by simp) (c_l5Fits p g (by simp_all) (by simp_all))) ?_
    rintro _ _ ⟨rfl, rfl⟩
    refine ⟨_, by simp; rfl, ?_⟩
    refine WN.op prg (by simp) (by simp; rfl) (by simp) ?_
    exact WN.keep [17] rfl
  · intro hg13
    refine WN.skip prg (by simp) ?_
    refine WN.skip prg (by simp) ?_
    refine WN.skip prg (by simp) ?_
    refine WN.op prg (by simp) (by simp; rfl) (by simp) ?_
    exact WN.keep [17] rfl
  refine WN.op prg (by simp) (by simp; rfl) (by simp) ?_
  refine WN.keep [4] ?_
  refine WP.ret (DoneQ.ret [] (by simp; rfl) (by simp; rfl) ?_)
  exact ⟨rfl, by simp [puzzleFits, fitsP, Bool.and_assoc]⟩
theorem c_implPuzzleFits (p : Puzzle) (g : List Int) (hp : p.Fits) (hl : g.length ≤ 140737488355328) : CallsA Try.prog 88 [p.v false, .c (.dsl false (.ints .i64 (g)))] [] fun x ho => ho = [] ∧ x = .v (.c (.bool (puzzleFits p g))) := by
  unfold Puzzle.v rulesD
  refine CallsA.of (tv := tyOf Try.prog) (fn := Try.f88) prg.tv Try.func88 rfl rfl (by simp) ?_
  refine WP.seq ?_
  refine WP.regN prg (by kernel_rfl) ?_ -- region 0
  refine WN.op prg (by simp) (by simp; rfl) (by simp) ?_
  refine WN.op prg (by simp) (by simp; rfl) (by simp) ?_
  refine WN.keep [1, 2] ?_
  refine WP.seq ?_
  refine WP.seq ?_
  refine WP.regN prg (by kernel_rfl) ?_ -- region 1
  refine WN.op prg (by simp) (by simp; rfl) (by first | (simp; done) | (simp; omega)) ?_
  refine WN.call prg [] [] (by simp) rfl (by simp; rfl) (by simp) (CallsA.at (by simp) (by simp) (c_implPuzzleValid p hp)) ?_
  rintro _ _ ⟨rfl, rfl⟩
  refine ⟨_, by simp; rfl, ?_⟩
  refine WN.op prg (by simp) (by simp; rfl) (by simp) ?_
  refine WN.op prg (by simp) (by simp; rfl) (by simp) ?_
  apply WN.join (t := 18) 6 12
  · first | rfl | (simp; rfl)
  · intro hg12
    refine WN.skip prg (by simp) ?_
    refine WN.skip prg (by simp) ?_
    refine WN.skip prg (by simp) ?_
    refine WN.skip prg (by simp) ?_
    refine WN.skip prg (by simp) ?_
    refine WN.op prg (by simp) (by simp; rfl) (by simp) ?_
    exact WN.keep [18, 1, 2] rfl
  · intro hg12
    refine WN.op prg (by simp) (by simp; rfl) (by simp) ?_
    refine WN.op prg (by simp) (by simp; rfl) (by simp) ?_
    refine WN.op prg (by simp) (by simp; rfl) (by first | (simp; done) | (simp; omega)) ?_
    refine WN.call prg [] [] (by simp) rfl (by simp; rfl) (by simp) (CallsA.at (by simp) (by simp) (c_implSquareFits g p.size hl)) ?_
    rintro _ _ ⟨rfl, rfl⟩
    refine ⟨_, by simp; rfl, ?_⟩
    refine WN.op prg (by simp) (by simp; rfl) (by simp) ?_
    refine WN.op prg (by simp) (by simp; rfl) (by simp) ?_
    exact WN.keep [18, 1, 2] rfl
  refine WN.keep [1, 2, 18] ?_
  refine WP.cond (by first | rfl | (simp; rfl)) (fun hb => ?_) (fun hb => ?_)
  · try simp at hb
    refine WP.seq ?_
    refine WP.regN prg (by kernel_rfl) ?_ -- region 2
    refine WN.op prg (by simp) (by simp; rfl) (by simp) ?_
    refine WN.keep [4] ?_
    refine WP.ret (DoneQ.ret [] (by simp; rfl) (by simp; rfl) ?_)
    have : puzzleFits p g = false := by
      rcases hb with hb | hb
      · simp [puzzleFits, hb]
      · simp only [squareFits, Bool.and_eq_false_iff, Bool.not_eq_false'] at hb
        rcases hb with hb | hb <;> simp [puzzleFits, fits0, hb]
    exact ⟨rfl, by simp [this]⟩
  · try simp at hb
    refine WP.skip ?_
    refine WP.seq ?_
    refine WP.seq ?_
    refine WP.regN prg (by kernel_rfl) ?_ -- region 3
    refine WN.op prg (by simp) (by simp; rfl) (by simp) ?_
    refine WN.op prg (by simp) (by simp; rfl) (by simp) ?_
    refine WN.op prg (by simp) (by simp; rfl) (by simp) ?_
    refine WN.keep [1, 2, 19, 20, 21] ?_
    refine WP.block ?_
    obtain ⟨hpo, hsf⟩ := hb
    simp only [squareFits, Bool.and_eq_true, Bool.not_eq_true'] at hsf
    obtain ⟨hg, hcl⟩ := hsf
    obtain ⟨hpg, hp20, hpr⟩ := puzzleOk_iff.1 hpo
    have hgl := grid_len hg
    have hll := grids_len hpg hg
    refine WP.loopU (g.length) (fun k => [(21, .v (.c (.int .i64 (k))))]) (fun k => []) (fun k => (∀ j, j < k → badA p.given g j = false)) (fun k => by simp [putAll]; rfl) (fun k => by simp; rfl) (by simp) (by simp) (by simp) ?_
    intro k hk hno
    refine WP.seq ?_
    refine WP.regN prg (by kernel_rfl) ?_ -- region 4
    refine WN.op prg (by simp) (by simp; rfl) (by simp) ?_
    refine WN.keep [1, 2, 19, 20, 21, 22] ?_
    refine WP.seq ?_
    refine WP.cond (by first | rfl | (simp; rfl)) (fun hb => ?_) (fun hb => ?_)
    · try simp at hb
      refine WP.skip ?_
      refine WP.seq ?_
      refine WP.block ?_
      refine WP.seq ?_
      refine WP.regN prg (by kernel_rfl) ?_ -- region 5
      refine WN.op prg (by simp) (by simp; rfl) (by simp) ?_
      refine WN.op prg (by simp) (by simp; rfl) (by first | (simp; done) | (simp; omega)) ?_
      refine WN.op prg (by simp) (by simp; rfl) (by first | (simp; done) | (simp; omega)) ?_
      refine WN.op prg (by simp) (by simp; rfl) (by simp) ?_
      refine WN.op prg (by simp) (by simp; rfl) (by simp) ?_
      refine WN.keep [1, 2, 5, 6, 19, 20, 21] ?_
      refine WP.seq ?_
      refine WP.regN prg (by kernel_rfl) ?_ -- region 6
      refine WN.op prg (by simp) (by simp; rfl) (by simp) ?_
      refine WN.op prg (by simp) (by simp; rfl) (by simp) ?_
      refine WN.op prg (by simp) (by simp; rfl) (by simp) ?_
      apply WN.join (t := 35) 7 28
      · first | rfl | (simp; rfl)
      · intro hg28
        refine WN.op prg (by simp) (by simp; rfl) (by simp) ?_
        refine WN.op prg (by simp) (by simp; rfl) (by first | (simp; done) | (simp; omega)) ?_
        refine WN.op prg (by simp) (by simp; rfl) (by simp) ?_
        refine WN.op prg (by simp) (by simp; rfl) (by first | (simp; done) | (simp; omega)) ?_
        refine WN.op prg (by simp) (by simp; rfl) (by first | (simp; done) | (simp; omega)) ?_
        refine WN.op prg (by simp) (by simp; rfl) (by simp) ?_
        refine WN.op prg (by simp) (by simp; rfl) (by simp) ?_
        exact WN.keep [35, 1, 2, 5, 6, 19, 20, 21, 37, 38, 39, 40, 41, 42, 43] rfl
      · intro hg28
        refine WN.skip prg (by simp) ?_
        refine WN.skip prg (by simp) ?_
        refine WN.skip prg (by simp) ?_
        refine WN.skip prg (by simp) ?_
        refine WN.skip prg (by simp) ?_
        refine WN.skip prg (by simp) ?_
        refine WN.op prg (by simp) (by simp; rfl) (by simp) ?_
        exact WN.keep [35, 1, 2, 5, 6, 19, 20, 21, 37, 38, 39, 40, 41, 42, 43] rfl
      refine WN.op prg (by simp) (by simp; rfl) (by simp) ?_
      apply WN.join (t := 44) 8 36
      · first | rfl | (simp; rfl)
      · intro hg36
        refine WN.op prg (by simp) (by simp; rfl) (by simp) ?_
        refine WN.op prg (by simp) (by simp; rfl) (by simp) ?_
        refine WN.op prg (by simp) (by simp; rfl) (by first | (simp; done) | (simp; omega)) ?_
        refine WN.op prg (by simp) (by simp; rfl) (by simp) ?_
        refine WN.op prg (by simp) (by simp; rfl) (by first | (simp; done) | (simp; omega)) ?_
        refine WN.op prg (by simp) (by simp; rfl) (by first | (simp; done) | (simp; omega)) ?_
        refine WN.op prg (by simp) (by simp; rfl) (by simp) ?_
        refine WN.op prg (by simp) (by simp; rfl) (by simp) ?_
        exact WN.keep [44, 1, 2, 19, 20, 21] rfl
      · intro hg36
        refine WN.skip prg (by simp) ?_
        refine WN.skip prg (by simp) ?_
        refine WN.skip prg (by simp) ?_
        refine WN.skip prg (by simp) ?_
        refine WN.skip prg (by simp) ?_
        refine WN.skip prg (by simp) ?_
        refine WN.skip prg (by simp) ?_
        refine WN.op prg (by simp) (by simp; rfl) (by simp) ?_
        exact WN.keep [44, 1, 2, 19, 20, 21] rfl
      refine WN.keep [1, 2, 19, 20, 21, 44] ?_
      refine WP.cond (by first | rfl | (simp; rfl)) (fun hb => ?_) (fun hb => ?_)
      · try simp at hb
        refine WP.seq ?_
        refine WP.regN prg (by kernel_rfl) ?_ -- region 7
        refine WN.op prg (by simp) (by simp; rfl) (by simp) ?_
        refine WN.keep [4] ?_
        refine WP.ret (DoneQ.ret [] (by simp; rfl) (by simp; rfl) ?_)
        have hbad : badA p.given g k = true := by
          simp [badA, pos, hb]
        exact ⟨rfl, by simp [puzzleFits, agree_bad (by omega) hbad]⟩
      · try simp at hb
        refine WP.skip ?_
        refine WP.regN prg (by kernel_rfl) ?_ -- region 8
        refine WN.op prg (by simp) (by simp; rfl) (by simp) ?_
        refine WN.op prg (by simp) (by simp; rfl) (by simp) ?_
        refine WN.keep [1, 2, 19, 20, 21] ?_
        have hbad : badA p.given g k = false := by
          simp [badA, pos]
          simpa using hb
        refine ⟨by omega, fun j hj => ?_, by simp [wrap_id (n := (k : Int) + 1) (by omega) (by omega)]⟩
        by_cases h : j = k
        · subst h; exact hbad
        · exact hno j (by omega)
    · try simp at hb
      refine WP.exit ?_
      refine WP.seq ?_
      refine WP.seq ?_
      refine WP.regN prg (by kernel_rfl) ?_ -- region 9
      refine WN.op prg (by simp) (by simp; rfl) (by simp) ?_
      refine WN.op prg (by simp) (by simp; rfl) (by first | (simp; done) | (simp; omega)) ?_
      refine WN.op prg (by simp) (by simp; rfl) (by simp) ?_
      refine WN.op prg (by simp) (by simp; rfl) (by simp) ?_
      refine WN.keep [1, 2, 47, 48, 49] ?_
      refine WP.block ?_
      have hag : agree p.given g = true := agree_iff.2 fun j hj => hno j (by omega)
      refine WP.loopU (p.rules.length) (fun k => [(49, .v (.c (.int .i64 (k))))]) (fun k => []) (fun k => ((p.rules.take k).all (fun r => canHold r g p.size) = true)) (fun k => by simp [putAll]; rfl) (fun k => by simp; rfl) (by simp) (by simp) (by simp) ?_
      intro k hk hall
      refine WP.seq ?_
      refine WP.regN prg (by kernel_rfl) ?_ -- region 10
      refine WN.op prg (by simp) (by simp; rfl) (by simp) ?_
      refine WN.keep [1, 2, 47, 48, 49, 50] ?_
      refine WP.seq ?_
      refine WP.cond (by first | rfl | (simp; rfl)) (fun hb => ?_) (fun hb => ?_)
      · try simp at hb
        refine WP.skip ?_
        refine WP.seq ?_
        refine WP.block ?_
        refine WP.seq ?_
        refine WP.regN prg (by kernel_rfl) ?_ -- region 11
        obtain ⟨r, hr⟩ : ∃ r, p.rules[k]? = some r := ⟨_, List.getElem?_eq_getElem (by omega)⟩
        refine WN.op prg (by simp) (by simp; rfl) (by first | (simp; done) | (simp; omega)) ?_
        refine WN.op prg (by simp) (by simp [hr, Rule.d]; rfl) (by simp) ?_
        refine WN.op prg (by simp) (by simp; rfl) (by simp) ?_
        refine WN.op prg (by simp) (by simp; rfl) (by first | (simp; done) | (simp; omega)) ?_
        refine WN.keep [1, 2, 8, 47, 48, 49] ?_
        refine WP.seq ?_
        refine WP.regN prg (by kernel_rfl) ?_ -- region 12
        refine WN.op prg (by simp) (by simp; rfl) (by first | (simp; done) | (simp; omega)) ?_
        refine WN.op prg (by simp) (by simp; rfl) (by simp) ?_
        refine WN.op prg (by simp) (by simp; rfl) (by simp) ?_
        refine WN.op prg (by simp) (by simp; rfl) (by first | (simp; done) | (simp; omega)) ?_
        refine WN.call prg [] [] (by simp) rfl (by simp; rfl) (by simp) (CallsA.at (by simp) (by simp) (c_canHold r g p.size (hpr r (List.mem_of_getElem? hr)) hg)) ?_
        rintro _ _ ⟨rfl, rfl⟩
        refine ⟨_, by simp; rfl, ?_⟩
        refine WN.op prg (by simp) (by simp; rfl) (by simp) ?_
        refine WN.keep [1, 2, 47, 48, 49, 58] ?_
        refine WP.cond (by first | rfl | (simp; rfl)) (fun hb => ?_) (fun hb => ?_)
        · try simp at hb
          refine WP.seq ?_
          refine WP.regN prg (by kernel_rfl) ?_ -- region 13
          refine WN.op prg (by simp) (by simp; rfl) (by simp) ?_
          refine WN.keep [4] ?_
          refine WP.ret (DoneQ.ret [] (by simp; rfl) (by simp; rfl) ?_)
          have : fits0 p.size p.rules g = false := by simp only [fits0, all_fail' (p := fun r => canHold r g p.size) hr hb, Bool.and_false]
          exact ⟨rfl, by simp [puzzleFits, this]⟩
        · try simp at hb
          refine WP.skip ?_
          refine WP.regN prg (by kernel_rfl) ?_ -- region 14
          refine WN.tidy [1, 2, 47, 48, 49] [16] (by simp; rfl) ?_
          refine WN.op prg (by simp) (by simp; rfl) (by simp) ?_
          refine WN.op prg (by simp) (by simp; rfl) (by simp) ?_
          refine WN.keep [1, 2, 47, 48, 49] ?_
          exact ⟨by omega, all_step' hall hr hb, by simp [wrap_id (n := (k : Int) + 1) (by omega) (by omega)]⟩
      · try simp at hb
        refine WP.exit ?_
        refine WP.seq ?_
        refine WP.regN prg (by kernel_rfl) ?_ -- region 15
        refine WN.op prg (by simp) (by simp; rfl) (by simp) ?_
        refine WN.keep [4] ?_
        refine WP.ret (DoneQ.ret [] (by simp; rfl) (by simp; rfl) ?_)
        have hkk : k = p.rules.length := by omega
        rw [hkk, List.take_length] at hall
        exact ⟨rfl, by simp only [puzzleFits, hpo, hg, hag, fits0, hall, hcl]; simp⟩
theorem c_specPuzzleSolved (p : Puzzle) (g : List Int) (hp : p.Fits) (hl : g.length ≤ 140737488355328) : CallsA Try.prog 143 [p.v false, .c (.dsl false (.ints .i64 (g)))] [] fun x ho => ho = [] ∧ x = .v (.c (.bool (puzzleSolved p g))) := by
  unfold Puzzle.v rulesD
  refine CallsA.of (tv := tyOf Try.prog) (fn := Try.f143) prg.tv Try.func143 rfl rfl (by simp) ?_
  refine WP.seq ?_
  refine WP.regN prg (by kernel_rfl) ?_ -- region 0
  refine WN.op prg (by simp) (by simp; rfl) (by simp) ?_
  refine WN.op prg (by simp) (by simp; rfl) (by simp) ?_
  refine WN.keep [1, 2] ?_
  refine WP.seq ?_
  refine WP.regN prg (by kernel_rfl) ?_ -- region 1
  refine WN.op prg (by simp) (by simp; rfl) (by first | (simp; done) | (simp; omega)) ?_
  refine WN.op prg (by simp) (by simp; rfl) (by simp) ?_
  refine WN.call prg [] [] (by simp) rfl (by simp; rfl) (by simp) (CallsA.at (by simp) (by simp) (c_specPuzzleFits p g hp hl)) ?_
  rintro _ _ ⟨rfl, rfl⟩
  refine ⟨_, by simp; rfl, ?_⟩
  refine WN.op prg (by simp) (by simp; rfl) (by simp) ?_
  apply WN.join (t := 16) 8 8
  · first | rfl | (simp; rfl)
  · intro hg8
    refine WN.op prg (by simp) (by simp; rfl) (by simp) ?_
    refine WN.op prg (by simp) (by simp; rfl) (by simp) ?_
    refine WN.op prg (by simp) (by simp; rfl) (by first | (simp; done) | (simp; omega)) ?_
    refine WN.call prg [] [] (by simp) rfl (by simp; rfl) (by simp) (CallsA.at (by simp) (by simp) (c_specGridFilled g p.size hl)) ?_
    rintro _ _ ⟨rfl, rfl⟩
    refine ⟨_, by simp; rfl, ?_⟩
    refine WN.op prg (by simp) (by simp; rfl) (by simp) ?_
    refine WN.op prg (by simp) (by simp; rfl) (by simp) ?_
    refine WN.op prg (by simp) (by simp; rfl) (by simp) ?_
    refine WN.op prg (by simp) (by simp; rfl) (by simp) ?_
    exact WN.keep [16] rfl
  · intro hg8
    refine WN.skip prg (by simp) ?_
    refine WN.skip prg (by simp) ?_
    refine WN.skip prg (by simp) ?_
    refine WN.skip prg (by simp) ?_
    refine WN.skip prg (by simp) ?_
    refine WN.skip prg (by simp) ?_
    refine WN.skip prg (by simp) ?_
    refine WN.op prg (by simp) (by simp; rfl) (by simp) ?_
    exact WN.keep [16] rfl
  refine WN.op prg (by simp) (by simp; rfl) (by simp) ?_
  refine WN.keep [4] ?_
  refine WP.ret (DoneQ.ret [] (by simp; rfl) (by simp; rfl) ?_)
  exact ⟨rfl, by simp [puzzleSolved, beq_dec]⟩
theorem c_implPuzzleSolved (p : Puzzle) (g : List Int) (hp : p.Fits) (hl : g.length ≤ 140737488355328) : CallsA Try.prog 60 [p.v false, .c (.dsl false (.ints .i64 (g)))] [] fun x ho => ho = [] ∧ x = .v (.c (.bool (puzzleSolved p g))) := by
  unfold Puzzle.v rulesD
  refine CallsA.of (tv := tyOf Try.prog) (fn := Try.f60) prg.tv Try.func60 rfl rfl (by simp) ?_
  refine WP.seq ?_
  refine WP.regN prg (by kernel_rfl) ?_ -- region 0
  refine WN.op prg (by simp) (by simp; rfl) (by simp) ?_
  refine WN.op prg (by simp) (by simp; rfl) (by simp) ?_
  refine WN.keep [1, 2] ?_
  refine WP.seq ?_
  refine WP.regN prg (by kernel_rfl) ?_ -- region 1
  refine WN.op prg (by simp) (by simp; rfl) (by first | (simp; done) | (simp; omega)) ?_
  refine WN.op prg (by simp) (by simp; rfl) (by simp) ?_
  refine WN.call prg [] [] (by simp) rfl (by simp; rfl) (by simp) (CallsA.at (by simp) (by simp) (c_implPuzzleFits p g hp hl)) ?_
  rintro _ _ ⟨rfl, rfl⟩
  refine ⟨_, by simp; rfl, ?_⟩
  refine WN.op prg (by simp) (by simp; rfl) (by simp) ?_
  apply WN.join (t := 16) 8 8
  · first | rfl | (simp; rfl)
  · intro hg8
    refine WN.op prg (by simp) (by simp; rfl) (by simp) ?_
    refine WN.op prg (by simp) (by simp; rfl) (by simp) ?_
    refine WN.op prg (by simp) (by simp; rfl) (by first | (simp; done) | (simp; omega)) ?_
    refine WN.call prg [] [] (by simp) rfl (by simp; rfl) (by simp) (CallsA.at (by simp) (by simp) (c_implGridFilled g p.size hl)) ?_
    rintro _ _ ⟨rfl, rfl⟩
    refine ⟨_, by simp; rfl, ?_⟩
    refine WN.op prg (by simp) (by simp; rfl) (by simp) ?_
    refine WN.op prg (by simp) (by simp; rfl) (by simp) ?_
    refine WN.op prg (by simp) (by simp; rfl) (by simp) ?_
    refine WN.op prg (by simp) (by simp; rfl) (by simp) ?_
    exact WN.keep [16] rfl
  · intro hg8
    refine WN.skip prg (by simp) ?_
    refine WN.skip prg (by simp) ?_
    refine WN.skip prg (by simp) ?_
    refine WN.skip prg (by simp) ?_
    refine WN.skip prg (by simp) ?_
    refine WN.skip prg (by simp) ?_
    refine WN.skip prg (by simp) ?_
    refine WN.op prg (by simp) (by simp; rfl) (by simp) ?_
    exact WN.keep [16] rfl
  refine WN.op prg (by simp) (by simp; rfl) (by simp) ?_
  refine WN.keep [4] ?_
  refine WP.ret (DoneQ.ret [] (by simp; rfl) (by simp; rfl) ?_)
  exact ⟨rfl, by simp [puzzleSolved, beq_dec]⟩
end Go.Proofs.Ytaicenafkjbnoaa

