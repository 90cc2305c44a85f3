/- Contracts: puzzles. -/
import Derived.Test.YtaicenafkjbnoaaC1
set_option linter.unusedVariables false
set_option linter.unusedSimpArgs false
namespace Go.Proofs.Ytaicenafkjbnoaa
open Go.AM
set_option maxRecDepth 100000

@[simp] def rulesD (rs : List Rule) : D := .recs 3 (rs.map Rule.d)
@[simp] def Puzzle.v (fr : Bool) (p : Puzzle) : V := .agg [.int .i64 p.size, .dsl fr (.ints .i64 p.given), .dsl fr (rulesD p.rules)]
/-- No slice of it is too long for a machine. -/
structure Puzzle.Fits (p : Puzzle) : Prop where
  given : p.given.length ≤ 140737488355328
  rules : p.rules.length ≤ 140737488355328
  cells : ∀ r ∈ p.rules, r.cells.length ≤ 140737488355328

theorem all_step' {α : Type} {l : List α} {p : α → Bool} {k : Nat} {x : α} (h : (l.take k).all p = true) (hx : l[k]? = some x) (hp : p x = true) : (l.take (k + 1)).all p = true := by
  rw [List.take_add_one, hx]
  simp only [List.all_append, h, Bool.true_and]
  simpa using hp
theorem all_fail' {α : Type} {l : List α} {p : α → Bool} {k : Nat} {x : α} (hx : l[k]? = some x) (hp : p x = false) : l.all p = false := by
  cases h : l.all p with
  | false => rfl
  | true =>
    have := List.all_eq_true.1 h _ (List.mem_of_getElem? hx)
    rw [hp] at this
    cases this
theorem c_implPuzzleValid (p : Puzzle) (hp : p.Fits) : CallsA Try.prog 73 [p.v false] [] fun x ho => ho = [] ∧ x = .v (.c (.bool (puzzleOk p))) := by
  unfold Puzzle.v rulesD
  refine CallsA.of (tv := tyOf Try.prog) (fn := Try.f73) prg.tv Try.func73 rfl rfl (by simp) ?_
  refine WP.seq ?_
  refine WP.regN prg (by kernel_rfl) ?_ -- region 0
  refine WN.op prg (by simp) (by simp; rfl) (by simp) ?_
  refine WN.op prg (by simp) (by simp; rfl) (by simp) ?_
  refine WN.keep [1] ?_
  refine WP.seq ?_
  refine WP.seq ?_
  refine WP.regN prg (by kernel_rfl) ?_ -- region 1
  refine WN.op prg (by simp) (by simp; rfl) (by simp) ?_
  refine WN.op prg (by simp) (by simp; rfl) (by first | (simp; done) | (simp; omega)) ?_
  refine WN.op prg (by simp) (by simp; rfl) (by simp) ?_
  refine WN.op prg (by simp) (by simp; rfl) (by first | (simp; done) | (simp; omega)) ?_
  refine WN.call prg [] [] (by simp) rfl (by simp; rfl) (by simp) (CallsA.at (by simp) (by simp) (c_implGridValid p.given p.size hp.given)) ?_
  rintro _ _ ⟨rfl, rfl⟩
  refine ⟨_, by simp; rfl, ?_⟩
  refine WN.op prg (by simp) (by simp; rfl) (by simp) ?_
  refine WN.op prg (by simp) (by simp; rfl) (by simp) ?_
  apply WN.join (t := 16) 5 11
  · first | rfl | (simp; rfl)
  · intro hg11
    refine WN.skip prg (by simp) ?_
    refine WN.skip prg (by simp) ?_
    refine WN.skip prg (by simp) ?_
    refine WN.skip prg (by simp) ?_
    refine WN.op prg (by simp) (by simp; rfl) (by simp) ?_
    exact WN.keep [16, 1] rfl
  · intro hg11
    refine WN.op prg (by simp) (by simp; rfl) (by simp) ?_
    refine WN.op prg (by simp) (by simp; rfl) (by first | (simp; done) | (simp; omega)) ?_
    refine WN.op prg (by simp) (by simp; rfl) (by simp) ?_
    refine WN.op prg (by simp) (by simp; rfl) (by simp) ?_
    refine WN.op prg (by simp) (by simp; rfl) (by simp) ?_
    exact WN.keep [16, 1] rfl
  refine WN.keep [1, 16] ?_
  refine WP.cond (by first | rfl | (simp; rfl)) (fun hb => ?_) (fun hb => ?_)
  · try simp at hb
    refine WP.seq ?_
    refine WP.regN prg (by kernel_rfl) ?_ -- region 2
    refine WN.op prg (by simp) (by simp; rfl) (by simp) ?_
    refine WN.keep [2] ?_
    refine WP.ret (DoneQ.ret [] (by simp; rfl) (by simp; rfl) ?_)
    have : puzzleOk p = false := by
      rcases hb with hb | hb
      · simp [puzzleOk, hb]
      · have : ¬ p.rules.length ≤ 20 := by omega
        simp [puzzleOk, this]
    exact ⟨rfl, by simp [this]⟩
  · try simp at hb
    refine WP.skip ?_
    refine WP.seq ?_
    refine WP.seq ?_
    refine WP.regN prg (by kernel_rfl) ?_ -- region 3
    refine WN.op prg (by simp) (by simp; rfl) (by simp) ?_
    refine WN.op prg (by simp) (by simp; rfl) (by first | (simp; done) | (simp; omega)) ?_
    refine WN.op prg (by simp) (by simp; rfl) (by simp) ?_
    refine WN.op prg (by simp) (by simp; rfl) (by simp) ?_
    refine WN.keep [1, 18, 19, 20] ?_
    refine WP.block ?_
    obtain ⟨hg, hlen⟩ := hb
    refine WP.loop (fun i s => ∃ k, i = p.rules.length - k ∧ k ≤ p.rules.length ∧ (p.rules.take k).all (fun r => ruleOk r p.size) = true ∧ s = ⟨[(1, .v (.c (.ptr 8 0 0 0))), (18, .v (.c (.dsl false (.recs 3 (p.rules.map Rule.d))))), (19, .v (.c (.int .i64 p.rules.length))), (20, .v (.c (.int .i64 (k : Nat))))], [(8, .box 0 [.int .i64 p.size, .dsl false (.ints .i64 p.given), .dsl false (.recs 3 (p.rules.map Rule.d))])]⟩) p.rules.length ⟨0, by simp⟩ ?_
    rintro _ _ ⟨k, rfl, hk, hall, rfl⟩
    refine WP.seq ?_
    refine WP.regN prg (by kernel_rfl) ?_ -- region 4
    refine WN.op prg (by simp) (by simp; rfl) (by simp) ?_
    refine WN.keep [1, 18, 19, 20, 21] ?_
    refine WP.seq ?_
    refine WP.cond (by first | rfl | (simp; rfl)) (fun hb => ?_) (fun hb => ?_)
    · try simp at hb
      refine WP.skip ?_
      refine WP.seq ?_
      refine WP.block ?_
      refine WP.seq ?_
      refine WP.regN prg (by kernel_rfl) ?_ -- region 5
      obtain ⟨r, hr⟩ : ∃ r, p.rules[k]? = some r := ⟨_, List.getElem?_eq_getElem hb⟩
      refine WN.op prg (by simp) (by simp; rfl) (by first | (simp; done) | (simp; omega)) ?_
      refine WN.op prg (by simp) (by simp [hr, Rule.d]; rfl) (by simp) ?_
      refine WN.op prg (by simp) (by simp; rfl) (by simp) ?_
      refine WN.op prg (by simp) (by simp; rfl) (by first | (simp; done) | (simp; omega)) ?_
      refine WN.keep [1, 4, 18, 19, 20] ?_
      refine WP.seq ?_
      refine WP.regN prg (by kernel_rfl) ?_ -- region 6
      refine WN.op prg (by simp) (by simp; rfl) (by first | (simp; done) | (simp; omega)) ?_
      refine WN.op prg (by simp) (by simp; rfl) (by simp) ?_
      refine WN.op prg (by simp) (by simp; rfl) (by first | (simp; done) | (simp; omega)) ?_
      refine WN.call prg [] [] (by simp) rfl (by simp; rfl) (by simp) (CallsA.at (by simp) (by simp) (c_implRuleValid r p.size (hp.cells r (List.mem_of_getElem? hr)))) ?_
      rintro _ _ ⟨rfl, rfl⟩
      refine ⟨_, by simp; rfl, ?_⟩
      refine WN.op prg (by simp) (by simp; rfl) (by simp) ?_
      refine WN.keep [1, 18, 19, 20, 28] ?_
      refine WP.cond (by first | rfl | (simp; rfl)) (fun hb => ?_) (fun hb => ?_)
      · try simp at hb
        refine WP.seq ?_
        refine WP.regN prg (by kernel_rfl) ?_ -- region 7
        refine WN.op prg (by simp) (by simp; rfl) (by simp) ?_
        refine WN.keep [2] ?_
        refine WP.ret (DoneQ.ret [] (by simp; rfl) (by simp; rfl) ?_)
        have : puzzleOk p = false := by simp only [puzzleOk, all_fail' (p := fun r => ruleOk r p.size) hr hb, Bool.and_false]
        exact ⟨rfl, by simp [this]⟩
      · try simp at hb
        refine WP.skip ?_
        refine WP.regN prg (by kernel_rfl) ?_ -- region 8
        refine WN.tidy [1, 18, 19, 20] [8] (by simp; rfl) ?_
        refine WN.op prg (by simp) (by simp; rfl) (by simp) ?_
        refine WN.op prg (by simp) (by simp; rfl) (by simp) ?_
        refine WN.keep [1, 18, 19, 20] ?_
        exact ⟨p.rules.length - (k + 1), by omega, k + 1, rfl, by omega, all_step' hall hr hb, by simp [wrap_id (n := (k : Int) + 1) (by omega) (by omega)]⟩
    · try simp at hb
      refine WP.exit ?_
      refine WP.seq ?_
      refine WP.regN prg (by kernel_rfl) ?_ -- region 9
      refine WN.op prg (by simp) (by simp; rfl) (by simp) ?_
      refine WN.keep [2] ?_
      refine WP.ret (DoneQ.ret [] (by simp; rfl) (by simp; rfl) ?_)
      have hkk : k = p.rules.length := by omega
      subst hkk
      rw [List.take_length] at hall
      exact ⟨rfl, by simp [puzzleOk, hg, hall]; omega⟩
theorem c_specPuzzleValid (p : Puzzle) (hp : p.Fits) : CallsA Try.prog 76 [p.v false] [] fun x ho => ho = [] ∧ x = .v (.c (.bool (puzzleOk p))) := by
  unfold Puzzle.v rulesD
  refine CallsA.of (tv := tyOf Try.prog) (fn := Try.f76) prg.tv Try.func76 rfl rfl (by simp) ?_
  refine WP.seq ?_
  refine WP.regN prg (by kernel_rfl) ?_ -- region 0
  refine WN.op prg (by simp) (by simp; rfl) (by simp) ?_
  refine WN.op prg (by simp) (by simp; rfl) (by simp) ?_
  refine WN.keep [1] ?_
  refine WP.seq ?_
  refine WP.seq ?_
  refine WP.regN prg (by kernel_rfl) ?_ -- region 1
  refine WN.op prg (by simp) (by simp; rfl) (by simp) ?_
  refine WN.keep [1, 3] ?_
  refine WP.block ?_
  refine WP.loop (fun i s => ∃ k, i = p.rules.length - k ∧ k ≤ p.rules.length ∧ (p.rules.take k).all (fun r => ruleOk r p.size) = true ∧ s = ⟨[(1, .v (.c (.ptr 8 0 0 0))), (3, .v (.c (.int .i64 (k : Nat))))], [(8, .box 0 [.int .i64 p.size, .dsl false (.ints .i64 p.given), .dsl false (.recs 3 (p.rules.map Rule.d))])]⟩) p.rules.length ⟨0, by simp⟩ ?_
  rintro _ _ ⟨k, rfl, hk, hall, rfl⟩
  refine WP.seq ?_
  refine WP.seq ?_
  refine WP.regN prg (by kernel_rfl) ?_ -- region 2
  refine WN.op prg (by simp) (by simp; rfl) (by simp) ?_
  refine WN.op prg (by simp) (by simp; rfl) (by simp) ?_
  refine WN.op prg (by simp) (by simp; rfl) (by first | (simp; done) | (simp; omega)) ?_
  refine WN.op prg (by simp) (by simp; rfl) (by simp) ?_
  refine WN.op prg (by simp) (by simp; rfl) (by simp) ?_
  refine WN.keep [1, 3, 8] ?_
  refine WP.cond (by first | rfl | (simp; rfl)) (fun hb => ?_) (fun hb => ?_)
  · try simp at hb
    refine WP.skip ?_
    refine WP.seq ?_
    refine WP.block ?_
    refine WP.seq ?_
    refine WP.reg prg (by kernel_rfl) ?_ -- region 4 DRAWS
    obtain ⟨r, hr⟩ : ∃ r, p.rules[k]? = some r := ⟨_, List.getElem?_eq_getElem hb⟩
    refine WS.d (by simp) (by simp; rfl) (by simp) (by kernel_rfl) ?_
    refine WS.d (by simp) (by simp; rfl) (by first | (simp; done) | (simp; omega)) (by kernel_rfl) ?_
    refine WS.d (by simp) (by simp; rfl) (by simp) (by kernel_rfl) ?_
    refine WS.d (by simp) (by simp; rfl) (by first | (simp; done) | (simp; omega)) (by kernel_rfl) ?_
    refine WS.d (by simp) (by simp [hr, Rule.d]; rfl) (by simp) (by kernel_rfl) ?_
    refine WS.d (by simp) (by simp; rfl) (by simp) (by kernel_rfl) ?_
    refine WS.d (by simp) (by simp; rfl) (by first | (simp; done) | (simp; omega)) (by kernel_rfl) ?_
    refine WS.callD [] [] (by simp) rfl (by simp; rfl) (by simp) (CallsA.at (by simp) (by simp) (c_specRuleValid r p.size (hp.cells r (List.mem_of_getElem? hr)))) (by kernel_rfl) ⟨_, _, rfl, rfl⟩ ?_
    rintro _ _ ⟨rfl, rfl⟩
    refine ⟨_, by simp; rfl, ?_⟩
    refine WS.d (by simp) (by simp; rfl) (by simp) (by kernel_rfl) ?_
    refine WS.keep [1, 3, 19] ?_
    refine WP.cond (by first | rfl | (simp; rfl)) (fun hb => ?_) (fun hb => ?_)
    · try simp at hb
      refine WP.seq ?_
      refine WP.regN prg (by kernel_rfl) ?_ -- region 5
      refine WN.op prg (by simp) (by simp; rfl) (by simp) ?_
      refine WN.keep [2] ?_
      refine WP.ret (DoneQ.ret [] (by simp; rfl) (by simp; rfl) ?_)
      have : puzzleOk p = false := by simp only [puzzleOk, all_fail' (p := fun r => ruleOk r p.size) hr hb, Bool.and_false]
      exact ⟨rfl, by simp [this]⟩
    · try simp at hb
      refine WP.skip ?_
      refine WP.regN prg (by kernel_rfl) ?_ -- region 3
      refine WN.op prg (by simp) (by simp; rfl) (by simp) ?_
      refine WN.op prg (by simp) (by simp; rfl) (by simp) ?_
      refine WN.op prg (by simp) (by simp; rfl) (by simp) ?_
      refine WN.keep [1, 3] ?_
      have := hp.rules
      exact ⟨p.rules.length - (k + 1), by omega, k + 1, rfl, by omega, all_step' hall hr hb, by simp [wrap_id (n := (k : Int) + 1) (by omega) (by omega)]⟩
  · try simp at hb
    refine WP.exit ?_
    refine WP.seq ?_
    refine WP.regN prg (by kernel_rfl) ?_ -- region 6
    refine WN.op prg (by simp) (by simp; rfl) (by simp) ?_
    refine WN.op prg (by simp) (by simp; rfl) (by first | (simp; done) | (simp; omega)) ?_
    refine WN.op prg (by simp) (by simp; rfl) (by simp) ?_
    refine WN.op prg (by simp) (by simp; rfl) (by first | (simp; done) | (simp; omega)) ?_
    refine WN.call prg [] [] (by simp) rfl (by simp; rfl) (by simp) (CallsA.at (by simp) (by simp) (c_specGridValid p.given p.size hp.given)) ?_
    rintro _ _ ⟨rfl, rfl⟩
    refine ⟨_, by simp; rfl, ?_⟩
    refine WN.op prg (by simp) (by simp; rfl) (by simp) ?_
    apply WN.join (t := 30) 5 25
    · first | rfl | (simp; rfl)
    · intro hg25
      refine WN.op prg (by simp) (by simp; rfl) (by simp) ?_
      refine WN.op prg (by simp) (by simp; rfl) (by first | (simp; done) | (simp; omega)) ?_
      refine WN.op prg (by simp) (by simp; rfl) (by simp) ?_
      refine WN.op prg (by simp) (by simp; rfl) (by simp) ?_
      refine WN.op prg (by simp) (by simp; rfl) (by simp) ?_
      exact WN.keep [30] rfl
    · intro hg25
      refine WN.skip prg (by simp) ?_
      refine WN.skip prg (by simp) ?_
      refine WN.skip prg (by simp) ?_
      refine WN.skip prg (by simp) ?_
      refine WN.op prg (by simp) (by simp; rfl) (by simp) ?_
      exact WN.keep [30] rfl
    refine WN.op prg (by simp) (by simp; rfl) (by simp) ?_
    refine WN.keep [2] ?_
    refine WP.ret (DoneQ.ret [] (by simp; rfl) (by simp; rfl) ?_)
    have hkk : k = p.rules.length := by omega
    subst hkk
    rw [List.take_length] at hall
    have h20 : ((p.rules.length : Int) ≤ 20) ↔ p.rules.length ≤ 20 := by omega
    exact ⟨rfl, by simp [puzzleOk, hall, h20]⟩
end Go.Proofs.Ytaicenafkjbnoaa

