/- Contracts: rules narrow, rounds, the next hint (program). -/
import Derived.Test.YtaicenafkjbnoaaC18
set_option linter.unusedVariables false
set_option linter.unusedSimpArgs false
namespace Go.Proofs.Ytaicenafkjbnoaa
open Go Go.AM
set_option maxRecDepth 100000

theorem c_implNarrow4 (p : Puzzle) (ms : List Int) (hp : puzzleOk p = true) (hm : masksOk ms p.size = true) : CallsA Try.prog 168 [p.v false, .c (.dsl false (.ints .i64 (ms)))] [] fun r ho => ho = [] ∧ r = .v (.c (.dsl true (.ints .i64 (narrow4 p ms)))) := by
  have hml := masks_len hm
  obtain ⟨hpg, hp20, hpr⟩ := puzzleOk_iff.1 hp
  obtain ⟨h2, h4, hll, hall⟩ := masksOk_iff.1 hm
  unfold Puzzle.v rulesD
  refine CallsA.of (tv := tyOf Try.prog) (fn := Try.f168) prg.tv Try.func168 rfl rfl (by simp) ?_
  refine WP.seq ?_
  refine WP.regN prg (by kernel_rfl) ?_ -- region 0
  refine WN.op prg (by simp) (by simp; rfl) (by simp) ?_
  refine WN.op prg (by simp) (by simp; rfl) (by simp) ?_
  refine WN.keep [1, 2] ?_
  refine WP.seq ?_
  refine WP.seq ?_
  refine WP.regN prg (by kernel_rfl) ?_ -- region 1
  refine WN.op prg (by simp) (by simp; rfl) (by first | (simp; done) | (simp; omega)) ?_
  refine WN.call prg [] [] (by simp) rfl (by simp; rfl) (by simp) (CallsA.at (by simp) (by simp) (c_implPuzzleValid_ok p hp)) ?_
  rintro _ _ ⟨rfl, rfl⟩
  refine ⟨_, by simp; rfl, ?_⟩
  refine WN.op prg (by simp) (by simp; rfl) (by simp) ?_
  refine WN.op prg (by simp) (by simp; rfl) (by simp) ?_
  apply WN.join (t := 19) 6 13
  · first | rfl | (simp; rfl)
  · intro hg13
    refine WN.skip prg (by simp) ?_
    refine WN.skip prg (by simp) ?_
    refine WN.skip prg (by simp) ?_
    refine WN.skip prg (by simp) ?_
    refine WN.skip prg (by simp) ?_
    refine WN.op prg (by simp) (by simp; rfl) (by simp) ?_
    exact WN.keep [19, 1, 2] rfl
  · intro hg13
    refine WN.op prg (by simp) (by simp; rfl) (by simp) ?_
    refine WN.op prg (by simp) (by simp; rfl) (by simp) ?_
    refine WN.op prg (by simp) (by simp; rfl) (by first | (simp; done) | (simp; omega)) ?_
    refine WN.call prg [] [] (by simp) rfl (by simp; rfl) (by simp) (CallsA.at (by simp) (by simp) (c_implMasksValid ms p.size hm)) ?_
    rintro _ _ ⟨rfl, rfl⟩
    refine ⟨_, by simp; rfl, ?_⟩
    refine WN.op prg (by simp) (by simp; rfl) (by simp) ?_
    refine WN.op prg (by simp) (by simp; rfl) (by simp) ?_
    exact WN.keep [19, 1, 2] rfl
  refine WN.keep [1, 2, 19] ?_
  refine WP.cond (by first | rfl | (simp; rfl)) (fun hb => ?_) (fun hb => ?_)
  · exact absurd hb (by simp)
  · try simp at hb
    refine WP.skip ?_
    refine WP.seq ?_
    refine WP.regN prg (by kernel_rfl) ?_ -- region 3
    refine WN.op prg (by simp) (by simp; rfl) (by simp) ?_
    refine WN.call prg [] [] (by simp) rfl (by simp; rfl) (by simp) (CallsA.at (by simp) (by simp) (c_clone ms (by omega))) ?_
    rintro _ _ ⟨rfl, rfl⟩
    refine ⟨_, by simp; rfl, ?_⟩
    refine WN.op prg (by simp) (by simp; rfl) (by simp) ?_
    refine WN.keep [2, 5] ?_
    refine WP.seq ?_
    refine WP.seq ?_
    refine WP.regN prg (by kernel_rfl) ?_ -- region 4
    refine WN.op prg (by simp) (by simp; rfl) (by simp) ?_
    refine WN.op prg (by simp) (by simp; rfl) (by first | (simp; done) | (simp; omega)) ?_
    refine WN.op prg (by simp) (by simp; rfl) (by simp) ?_
    refine WN.op prg (by simp) (by simp; rfl) (by simp) ?_
    refine WN.keep [2, 5, 23, 24, 25] ?_
    refine WP.block ?_
    refine WP.loopU (p.rules.length) (fun k => [(25, .v (.c (.int .i64 (k))))]) (fun k => [(168, .arr 0 true (.ints .i64 ((p.rules.take k).foldl rule1 ms)))]) (fun k => True) (fun k => by simp [putAll]; rfl) (fun k => by simp; rfl) (by simp) (by simp) (by simp) ?_
    intro k hk _
    have hsub := rules_sub hm (p.rules.take k)
    have hmk := hsub.ok hm
    have hlk := hsub.1
    refine WP.seq ?_
    refine WP.regN prg (by kernel_rfl) ?_ -- region 5
    refine WN.op prg (by simp) (by simp; rfl) (by simp) ?_
    refine WN.keep [2, 5, 23, 24, 25, 26] ?_
    refine WP.seq ?_
    refine WP.cond (by first | rfl | (simp; rfl)) (fun hb => ?_) (fun hb => ?_)
    · try simp at hb
      refine WP.skip ?_
      refine WP.seq ?_
      refine WP.block ?_
      refine WP.seq ?_
      refine WP.regN prg (by kernel_rfl) ?_ -- region 6
      obtain ⟨r, hr⟩ : ∃ r, p.rules[k]? = some r := ⟨_, List.getElem?_eq_getElem (by omega)⟩
      refine WN.op prg (by simp) (by simp; rfl) (by first | (simp; done) | (simp; omega)) ?_
      refine WN.op prg (by simp) (by simp [hr, Rule.d]; rfl) (by simp) ?_
      refine WN.op prg (by simp) (by simp; rfl) (by simp) ?_
      refine WN.op prg (by simp) (by simp; rfl) (by first | (simp; done) | (simp; omega)) ?_
      refine WN.keep [2, 5, 7, 23, 24, 25] ?_
      refine WP.seq ?_
      refine WP.regN prg (by kernel_rfl) ?_ -- region 7
      refine WN.op prg (by simp) (by simp; rfl) (by first | (simp; done) | (simp; omega)) ?_
      refine WN.op prg (by simp) (by simp; rfl) (by simp) ?_
      refine WN.op prg (by simp) (by simp; rfl) (by simp) ?_
      refine WN.op prg (by simp) (by simp; rfl) (by first | (simp; done) | (simp; omega)) ?_
      have hro := hpr r (List.mem_of_getElem? hr)
      have hrl := rule_len hro
      have hpw := wayPre hro hmk
      have hfl := ruleMasks_len (tryPre_own hpw)
      have hol : (ownOf r ((p.rules.take k).foldl rule1 ms)).length = r.cells.length := by simp [ownOf]
      refine WN.call prg [] [168] (by simp) rfl (by simp; rfl) (by simp) (CallsA.at (by simp [List.take_of_length_le, hlk]) (by simp) (c_implRuleMasks r ((p.rules.take k).foldl rule1 ms) p.size hro hmk)) ?_
      rintro _ _ ⟨rfl, rfl⟩
      refine ⟨_, by simp; rfl, ?_⟩
      refine WN.op prg (by simp) (by simp; rfl) (by simp) ?_
      refine WN.op prg (by simp) (by simp; rfl) (by simp) ?_
      refine WN.keep [2, 5, 7, 23, 24, 25, 33, 34, 35] ?_
      refine WP.block ?_
      refine WP.loopU (r.cells.length) (fun j => [(35, .v (.c (.int .i64 (j))))]) (fun j => [(168, .arr 0 true (.ints .i64 ((List.range j).foldl (setR r.cells (ruleMasks r (ownOf r ((p.rules.take k).foldl rule1 ms)))) ((p.rules.take k).foldl rule1 ms))))]) (fun j => True) (fun k => by simp [putAll]; rfl) (fun k => by simp; rfl) (by simp) (by simp) (by simp) ?_
      intro j hk _
      have hat := fun h : j < r.cells.length => hpw.at_ h
      have hsl := setR_len r.cells (ruleMasks r (ownOf r ((p.rules.take k).foldl rule1 ms))) ((p.rules.take k).foldl rule1 ms) j
      refine WP.seq ?_
      refine WP.regN prg (by kernel_rfl) ?_ -- region 8
      refine WN.op prg (by simp) (by simp; rfl) (by simp) ?_
      refine WN.keep [2, 5, 7, 23, 24, 25, 33, 34, 35, 36] ?_
      refine WP.seq ?_
      refine WP.cond (by first | rfl | (simp; rfl)) (fun hb => ?_) (fun hb => ?_)
      · try simp at hb
        refine WP.skip ?_
        refine WP.seq ?_
        refine WP.block ?_
        refine WP.seq ?_
        refine WP.regN prg (by kernel_rfl) ?_ -- region 9
        refine WN.op prg (by simp) (by simp; rfl) (by simp) ?_
        refine WN.op prg (by simp) (by simp; rfl) (by first | (simp; done) | (simp; omega)) ?_
        refine WN.op prg (by simp) (by simp; rfl) (by first | (simp; done) | (simp; omega)) ?_
        refine WN.op prg (by simp) (by simp; rfl) (by simp) ?_
        refine WN.op prg (by simp) (by simp; rfl) (by simp) ?_
        refine WN.keep [2, 5, 7, 8, 9, 23, 24, 25, 33, 34, 35] ?_
        refine WP.regN prg (by kernel_rfl) ?_ -- region 10
        refine WN.op prg (by simp) (by simp; rfl) (by simp) ?_
        refine WN.op prg (by simp) (by simp; rfl) (by simp) ?_
        refine WN.op prg (by simp) (by simp; rfl) (by first | (simp; done) | (simp; omega)) ?_
        refine WN.op prg (by simp) (by simp; rfl) (by simp) ?_
        refine WN.op prg (by simp) (by simp; rfl) (by first | (simp; done) | (simp; omega)) ?_
        refine WN.op prg (by simp) (by simp; rfl) (by first | (simp; done) | (simp; omega)) ?_
        refine WN.op prg (by simp) (by simp; rfl) (by simp) ?_
        refine WN.op prg (by simp) (by simp; rfl) (by first | (simp; done) | (simp; omega)) ?_
        refine WN.op prg (by simp) (by simp; rfl) (by first | (simp; done) | (simp; omega)) ?_
        refine WN.keep [2, 5, 7, 23, 24, 25, 33, 34, 35] ?_
        refine WP.regN prg (by kernel_rfl) ?_ -- region 11
        refine WN.op prg (by simp) (by simp; rfl) (by simp) ?_
        refine WN.op prg (by simp) (by simp; rfl) (by simp) ?_
        refine WN.keep [2, 5, 7, 23, 24, 25, 33, 34, 35] ?_
        exact ⟨by omega, trivial, by simp [foldl_range, setR, wrap_id (n := (j : Int) + 1) (by omega) (by omega)]⟩
      · try simp at hb
        refine WP.exit ?_
        refine WP.regN prg (by kernel_rfl) ?_ -- region 12
        refine WN.tidy [2, 5, 23, 24, 25] [16, 168] (by simp; rfl) ?_
        refine WN.op prg (by simp) (by simp; rfl) (by simp) ?_
        refine WN.op prg (by simp) (by simp; rfl) (by simp) ?_
        refine WN.keep [2, 5, 23, 24, 25] ?_
        have hj : j = r.cells.length := by omega
        refine ⟨by omega, trivial, ?_⟩
        have e := foldl_take rule1 ms hr
        have e2 := setR_all r.cells (ruleMasks r (ownOf r ((p.rules.take k).foldl rule1 ms))) ((p.rules.take k).foldl rule1 ms) (by omega)
        simp [e, rule1, hj, e2, wrap_id (n := (k : Int) + 1) (by omega) (by omega)]
    · try simp at hb
      refine WP.exit ?_
      refine WP.seq ?_
      refine WP.regN prg (by kernel_rfl) ?_ -- region 13
      refine WN.op prg (by simp) (by simp; rfl) (by simp) ?_
      refine WN.op prg (by simp) (by simp; rfl) (by simp) ?_
      refine WN.keep [4] ?_
      refine WP.ret (DoneQ.ret [] (by simp; rfl) (by simp; rfl) ?_)
      have hkk : k = p.rules.length := by omega
      rw [hkk, List.take_length] at hlk
      exact ⟨rfl, by simp [narrow4, hp, hm, hkk, List.take_of_length_le, hlk]⟩
theorem c_implNarrowBy (p : Puzzle) (ms : List Int) (t : Int) (hp : puzzleOk p = true) (hm : masksOk ms p.size = true) (h1 : 1 ≤ t) (ht : t ≤ 4) : CallsA Try.prog 135 [p.v false, .c (.dsl false (.ints .i64 (ms))), .c (.int .i64 (t))] [] fun r ho => ho = [] ∧ r = .v (.c (.dsl true (.ints .i64 (narrowBy p ms t)))) := by
  unfold Puzzle.v rulesD
  refine CallsA.of (tv := tyOf Try.prog) (fn := Try.f135) prg.tv Try.func135 rfl rfl (by simp) ?_
  refine WP.seq ?_
  refine WP.regN prg (by kernel_rfl) ?_ -- region 0
  refine WN.op prg (by simp) (by simp; rfl) (by simp) ?_
  refine WN.op prg (by simp) (by simp; rfl) (by simp) ?_
  refine WN.keep [1, 2, 3] ?_
  refine WP.seq ?_
  refine WP.seq ?_
  refine WP.regN prg (by kernel_rfl) ?_ -- region 1
  refine WN.op prg (by simp) (by simp; rfl) (by first | (simp; done) | (simp; omega)) ?_
  refine WN.call prg [] [] (by simp) rfl (by simp; rfl) (by simp) (CallsA.at (by simp) (by simp) (c_implPuzzleValid_ok p hp)) ?_
  rintro _ _ ⟨rfl, rfl⟩
  refine ⟨_, by simp; rfl, ?_⟩
  refine WN.op prg (by simp) (by simp; rfl) (by simp) ?_
  refine WN.keep [1, 2, 3, 9] ?_
  refine WP.cond (by first | rfl | (simp; rfl)) (fun hb => ?_) (fun hb => ?_)
  · exact absurd hb (by simp)
  · try simp at hb
    refine WP.skip ?_
    refine WP.seq ?_
    refine WP.seq ?_
    refine WP.regN prg (by kernel_rfl) ?_ -- region 3
    refine WN.op prg (by simp) (by simp; rfl) (by simp) ?_
    refine WN.keep [1, 3, 10] ?_
    refine WP.block ?_
    refine WP.seq ?_
    refine WP.regN prg (by kernel_rfl) ?_ -- region 4
    refine WN.op prg (by simp) (by simp; rfl) (by simp) ?_
    refine WN.op prg (by simp) (by simp; rfl) (by simp) ?_
    refine WN.keep [1, 3, 10, 11] ?_
    refine WP.cond (by first | rfl | (simp; rfl)) (fun hb => ?_) (fun hb => ?_)
    · try simp at hb
      refine WP.seq ?_
      refine WP.regN prg (by kernel_rfl) ?_ -- region 5
      refine WN.op prg (by simp) (by simp; rfl) (by simp) ?_
      refine WN.op prg (by simp) (by simp; rfl) (by simp) ?_
      refine WN.op prg (by simp) (by simp; rfl) (by first | (simp; done) | (simp; omega)) ?_
      refine WN.call prg [] [] (by simp) rfl (by simp; rfl) (by simp) (CallsA.at (by simp) (by simp) (c_implNarrow1 ms p.size hm)) ?_
      rintro _ _ ⟨rfl, rfl⟩
      refine ⟨_, by simp; rfl, ?_⟩
      refine WN.op prg (by simp) (by simp; rfl) (by simp) ?_
      refine WN.keep [6] ?_
      refine WP.ret (DoneQ.ret [] (by simp; rfl) (by simp; rfl) ?_)
      exact ⟨rfl, by simp [narrowBy, hp, hm, hb]⟩
    · try simp at hb
      refine WP.seq ?_
      refine WP.regN prg (by kernel_rfl) ?_ -- region 6
      refine WN.op prg (by simp) (by simp; rfl) (by simp) ?_
      refine WN.op prg (by simp) (by simp; rfl) (by simp) ?_
      refine WN.keep [1, 3, 10, 17] ?_
      refine WP.cond (by first | rfl | (simp; rfl)) (fun hb => ?_) (fun hb => ?_)
      · try simp at hb
        refine WP.seq ?_
        refine WP.regN prg (by kernel_rfl) ?_ -- region 7
        refine WN.op prg (by simp) (by simp; rfl) (by simp) ?_
        refine WN.op prg (by simp) (by simp; rfl) (by simp) ?_
        refine WN.op prg (by simp) (by simp; rfl) (by first | (simp; done) | (simp; omega)) ?_
        refine WN.call prg [] [] (by simp) rfl (by simp; rfl) (by simp) (CallsA.at (by simp) (by simp) (c_implNarrow2 ms p.size hm)) ?_
        rintro _ _ ⟨rfl, rfl⟩
        refine ⟨_, by simp; rfl, ?_⟩
        refine WN.op prg (by simp) (by simp; rfl) (by simp) ?_
        refine WN.keep [6] ?_
        refine WP.ret (DoneQ.ret [] (by simp; rfl) (by simp; rfl) ?_)
        exact ⟨rfl, by simp [narrowBy, hp, hm, hb]⟩
      · try simp at hb
        refine WP.seq ?_
        refine WP.regN prg (by kernel_rfl) ?_ -- region 8
        refine WN.op prg (by simp) (by simp; rfl) (by simp) ?_
        refine WN.op prg (by simp) (by simp; rfl) (by simp) ?_
        refine WN.keep [1, 3, 10, 23] ?_
        refine WP.cond (by first | rfl | (simp; rfl)) (fun hb => ?_) (fun hb => ?_)
        · try simp at hb
          refine WP.seq ?_
          refine WP.regN prg (by kernel_rfl) ?_ -- region 9
          refine WN.op prg (by simp) (by simp; rfl) (by simp) ?_
          refine WN.op prg (by simp) (by simp; rfl) (by simp) ?_
          refine WN.op prg (by simp) (by simp; rfl) (by first | (simp; done) | (simp; omega)) ?_
          refine WN.call prg [] [] (by simp) rfl (by simp; rfl) (by simp) (CallsA.at (by simp) (by simp) (c_implNarrow3 ms p.size hm)) ?_
          rintro _ _ ⟨rfl, rfl⟩
          refine ⟨_, by simp; rfl, ?_⟩
          refine WN.op prg (by simp) (by simp; rfl) (by simp) ?_
          refine WN.keep [6] ?_
          refine WP.ret (DoneQ.ret [] (by simp; rfl) (by simp; rfl) ?_)
          exact ⟨rfl, by simp [narrowBy, hp, hm, hb]⟩
        · try simp at hb
          refine WP.seq ?_
          refine WP.regN prg (by kernel_rfl) ?_ -- region 10
          refine WN.op prg (by simp) (by simp; rfl) (by simp) ?_
          refine WN.op prg (by simp) (by simp; rfl) (by simp) ?_
          refine WN.keep [1, 3, 29] ?_
          refine WP.cond (by first | rfl | (simp; rfl)) (fun hb => ?_) (fun hb => ?_)
          · try simp at hb
            refine WP.seq ?_
            refine WP.regN prg (by kernel_rfl) ?_ -- region 11
            refine WN.op prg (by simp) (by simp; rfl) (by first | (simp; done) | (simp; omega)) ?_
            refine WN.op prg (by simp) (by simp; rfl) (by simp) ?_
            refine WN.call prg [] [] (by simp) rfl (by simp; rfl) (by simp) (CallsA.at (by simp) (by simp) (c_implNarrow4 p ms hp hm)) ?_
            rintro _ _ ⟨rfl, rfl⟩
            refine ⟨_, by simp; rfl, ?_⟩
            refine WN.op prg (by simp) (by simp; rfl) (by simp) ?_
            refine WN.keep [6] ?_
            refine WP.ret (DoneQ.ret [] (by simp; rfl) (by simp; rfl) ?_)
            exact ⟨rfl, by simp [narrowBy, hp, hm, hb]⟩
          · try simp at hb
            refine WP.skip ?_
            refine WP.seq ?_
            refine WP.regN prg (by kernel_rfl) ?_ -- region 12
            refine WN.op prg (by simp) (by simp; rfl) (by simp) ?_
            refine WN.keep [6] ?_
            refine WP.ret (DoneQ.ret [] (by simp; rfl) (by simp; rfl) ?_)
            exfalso
            omega
def roundV : Option (List Int × Int) → LV
  | some (l, t) => .tup [.c (.dsl true (.ints .i64 l)), .c (.int .i64 t)]
  | none => .tup [.c (.dsl true (.ints .i64 [])), .c (.int .i64 0)]
theorem w_nextRound (p : Puzzle) (ms : List Int) (most : Nat) (hp : puzzleOk p = true) (hm : masksOk ms p.size = true) (h4 : most ≤ 4) : CallsA Try.prog 92 [p.v false, .c (.dsl false (.ints .i64 (ms))), .c (.int .i64 (most))] [] fun r ho => ho = [] ∧ LeLV r (roundV (nextRound p ms most 1)) := by
  have hml := masks_len hm
  unfold Puzzle.v rulesD
  refine CallsA.of (tv := tyOf Try.prog) (fn := Try.f92) prg.tv Try.func92 rfl rfl (by simp) ?_
  refine WP.seq ?_
  refine WP.regN prg (by kernel_rfl) ?_ -- region 0
  refine WN.op prg (by simp) (by simp; rfl) (by simp) ?_
  refine WN.op prg (by simp) (by simp; rfl) (by simp) ?_
  refine WN.op prg (by simp) (by simp; rfl) (by simp) ?_
  refine WN.keep [1, 2, 3] ?_
  refine WP.seq ?_
  refine WP.seq ?_
  refine WP.regN prg (by kernel_rfl) ?_ -- region 1
  refine WN.op prg (by simp) (by simp; rfl) (by simp) ?_
  refine WN.keep [1, 2, 3, 8] ?_
  refine WP.block ?_
  refine WP.loopU (most) (fun k => [(8, .v (.c (.int .i64 ((k : Int) + 1))))]) (fun k => []) (fun k => (∀ u : Int, 1 ≤ u → u < k + 1 → narrowBy p ms u = ms)) (fun k => by simp [putAll]; rfl) (fun k => by simp; rfl) (by intro u h1 h2; omega) (by simp) (by simp) ?_
  intro k hk hs
  refine WP.seq ?_
  refine WP.seq ?_
  refine WP.regN prg (by kernel_rfl) ?_ -- region 2
  refine WN.op prg (by simp) (by simp; rfl) (by simp) ?_
  refine WN.op prg (by simp) (by simp; rfl) (by simp) ?_
  refine WN.op prg (by simp) (by simp; rfl) (by simp) ?_
  refine WN.keep [1, 2, 3, 8, 12] ?_
  refine WP.cond (by first | rfl | (simp; rfl)) (fun hb => ?_) (fun hb => ?_)
  · try simp at hb
    refine WP.skip ?_
    refine WP.seq ?_
    refine WP.block ?_
    refine WP.seq ?_
    refine WP.regN prg (by kernel_rfl) ?_ -- region 4
    refine WN.op prg (by simp) (by simp; rfl) (by first | (simp; done) | (simp; omega)) ?_
    refine WN.op prg (by simp) (by simp; rfl) (by simp) ?_
    refine WN.op prg (by simp) (by simp; rfl) (by simp) ?_
    refine WN.call prg [] [] (by simp) rfl (by simp; rfl) (by simp) (CallsA.at (by simp) (by simp) (c_implNarrowBy p ms ((k : Int) + 1) hp hm (by omega) (by omega))) ?_
    rintro _ _ ⟨rfl, rfl⟩
    refine ⟨_, by simp; rfl, ?_⟩
    refine WN.op prg (by simp) (by simp; rfl) (by simp) ?_
    refine WN.keep [1, 2, 3, 8, 9] ?_
    refine WP.seq ?_
    refine WP.regN prg (by kernel_rfl) ?_ -- region 5
    refine WN.op prg (by simp) (by simp; rfl) (by simp) ?_
    refine WN.op prg (by simp) (by simp; rfl) (by simp) ?_
    have hns := (narrow_sub hp hm (t := (k : Int) + 1) (by omega) (by omega)).1
    refine WN.call prg [] [] (by simp) rfl (by simp; rfl) (by simp) (CallsA.at (by simp) (by simp) (c_equal (narrowBy p ms ((k : Int) + 1)) ms (by omega) (by omega))) ?_
    rintro _ _ ⟨rfl, rfl⟩
    refine ⟨_, by simp; rfl, ?_⟩
    refine WN.op prg (by simp) (by simp; rfl) (by simp) ?_
    refine WN.keep [1, 2, 3, 8, 9, 22] ?_
    refine WP.cond (by first | rfl | (simp; rfl)) (fun hb => ?_) (fun hb => ?_)
    · try simp at hb
      refine WP.seq ?_
      refine WP.regN prg (by kernel_rfl) ?_ -- region 6
      refine WN.op prg (by simp) (by simp; rfl) (by simp) ?_
      refine WN.op prg (by simp) (by simp; rfl) (by simp) ?_
      refine WN.op prg (by simp) (by simp; rfl) (by simp) ?_
      refine WN.op prg (by simp) (by simp; rfl) (by simp) ?_
      refine WN.keep [6, 7] ?_
      refine WP.ret (DoneQ.ret [] (by simp; rfl) (by simp; rfl) ?_)
      have e := nextRound_at hb most 1 hs (by omega) (by omega)
      rw [e]
      exact ⟨rfl, by simp [roundV]; exact LeLV.refl _⟩
    · try simp at hb
      refine WP.skip ?_
      refine WP.regN prg (by kernel_rfl) ?_ -- region 3
      refine WN.op prg (by simp) (by simp; rfl) (by simp) ?_
      refine WN.op prg (by simp) (by simp; rfl) (by simp) ?_
      refine WN.op prg (by simp) (by simp; rfl) (by simp) ?_
      refine WN.keep [1, 2, 3, 8] ?_
      refine ⟨by omega, fun u h1 h2 => ?_, by simp [wrap_id (n := (k : Int) + 1 + 1) (by omega) (by omega)]⟩
      by_cases e : u = (k : Int) + 1
      · rw [e]; exact hb
      · exact hs u h1 (by omega)
  · try simp at hb
    refine WP.exit ?_
    refine WP.seq ?_
    refine WP.regN prg (by kernel_rfl) ?_ -- region 7
    refine WN.op prg (by simp) (by simp; rfl) (by simp) ?_
    refine WN.op prg (by simp) (by simp; rfl) (by simp) ?_
    refine WN.keep [6, 7] ?_
    refine WP.ret (DoneQ.ret [] (by simp; rfl) (by simp; rfl) ?_)
    have e := nextRound_all (p := p) (ms := ms) most 1 fun u h1 h2 => hs u h1 (by omega)
    rw [e]
    exact ⟨rfl, by simp [roundV]; exact LeLV.tup ⟨LeV.c (LeC.nil true (es := 1) rfl (by omega)), LeV.refl _, trivial⟩⟩
theorem c_nextRound (p : Puzzle) (ms : List Int) (most : Nat) (hp : puzzleOk p = true) (hm : masksOk ms p.size = true) (h4 : most ≤ 4) : CallsA Try.prog 92 [p.v false, .c (.dsl false (.ints .i64 (ms))), .c (.int .i64 (most))] [] fun r ho => ho = [] ∧ r = roundV (nextRound p ms most 1) := CallsA.le (w_nextRound p ms most hp hm h4)
def roundM (o : Option (List Int × Int)) : List Int := (o.map (·.1)).getD []
def roundT (o : Option (List Int × Int)) : Int := (o.map (·.2)).getD 0
theorem c_nextRound' (p : Puzzle) (ms : List Int) (most : Nat) (hp : puzzleOk p = true) (hm : masksOk ms p.size = true) (h4 : most ≤ 4) : CallsA Try.prog 92 [p.v false, .c (.dsl false (.ints .i64 (ms))), .c (.int .i64 (most))] [] fun r ho => ho = [] ∧ r = .tup [.c (.dsl true (.ints .i64 (roundM (nextRound p ms most 1)))), .c (.int .i64 (roundT (nextRound p ms most 1)))] := by
  have h := c_nextRound p ms most hp hm h4
  cases e : nextRound p ms most 1 with
  | none => rw [e] at h; exact h
  | some q => obtain ⟨l, t⟩ := q; rw [e] at h; exact h
theorem c_bothGrids_ok (gv g : List Int) (n : Int) (hgv : gridOk gv n = true) (hg : gridOk g n = true) (h : agree gv g = true) : CallsA Try.prog 90 [.c (.dsl false (.ints .i64 (gv))), .c (.dsl false (.ints .i64 (g)))] [] fun r ho => ho = [] ∧ r = .tup [.c (.dsl true (.ints .i64 (withG gv g))), .c (.bool true)] := by
  have := c_bothGrids gv g n hgv hg
  simpa [bothR, h, bothV] using this
theorem onlyV_pos (m : Int) : 0 ≤ onlyV m ∧ (single m = true ↔ 0 < onlyV m) := by
  unfold single onlyV
  split
  · simp
  · split
    · simp
    · split
      · simp
      · split <;> simp
theorem c_implNextHint (p : Puzzle) (g : List Int) (hp : p.Fits) (hl : g.length ≤ 140737488355328) : CallsA Try.prog 26 [p.v false, .c (.dsl false (.ints .i64 (g)))] [] fun r ho => ho = [] ∧ r = hintV (nextHint p g) := by
  unfold Puzzle.v rulesD
  refine CallsA.of (tv := tyOf Try.prog) (fn := Try.f26) prg.tv Try.func26 rfl rfl (by simp) ?_
  refine WP.seq ?_
  refine WP.regN prg (by kernel_rfl) ?_ -- region 0
  refine WN.op prg (by simp) (by simp; rfl) (by simp) ?_
  refine WN.op prg (by simp) (by simp; rfl) (by simp) ?_
  refine WN.op prg (by simp) (by simp; rfl) (by simp) ?_
  refine WN.keep [1, 2, 4] ?_
  refine WP.seq ?_
  refine WP.seq ?_
  refine WP.regN prg (by kernel_rfl) ?_ -- region 1
  refine WN.op prg (by simp) (by simp; rfl) (by first | (simp; done) | (simp; omega)) ?_
  refine WN.op prg (by simp) (by simp; rfl) (by simp) ?_
  refine WN.call prg [] [] (by simp) rfl (by simp; rfl) (by simp) (CallsA.at (by simp) (by simp) (c_implPuzzleFits p g hp hl)) ?_
  rintro _ _ ⟨rfl, rfl⟩
  refine ⟨_, by simp; rfl, ?_⟩
  refine WN.op prg (by simp) (by simp; rfl) (by simp) ?_
  refine WN.keep [1, 2, 4, 16] ?_
  refine WP.cond (by first | rfl | (simp; rfl)) (fun hb => ?_) (fun hb => ?_)
  · try simp at hb
    refine WP.seq ?_
    refine WP.regN prg (by kernel_rfl) ?_ -- region 2
    refine WN.op prg (by simp) (by simp; rfl) (by simp) ?_
    refine WN.op prg (by simp) (by simp; rfl) (by first | (simp; done) | (simp; omega)) ?_
    refine WN.op prg (by simp) (by simp; rfl) (by simp) ?_
    refine WN.keep [4, 5] ?_
    refine WP.ret (DoneQ.ret [] (by simp; rfl) (by simp; rfl) ?_)
    exact ⟨rfl, by simp [nextHint, hb, hintV]⟩
  · try simp at hb
    refine WP.skip ?_
    refine WP.seq ?_
    refine WP.regN prg (by kernel_rfl) ?_ -- region 3
    refine WN.op prg (by simp) (by simp; rfl) (by first | (simp; done) | (simp; omega)) ?_
    have hfit := hb
    have hpf : (puzzleOk p = true ∧ gridOk g p.size = true) ∧ agree p.given g = true := by
      simp only [puzzleFits, Bool.and_eq_true] at hb
      exact ⟨hb.1.1, hb.1.2⟩
    obtain ⟨⟨hpo, hg⟩, hag⟩ := hpf
    obtain ⟨hpg, hp20, hpr⟩ := puzzleOk_iff.1 hpo
    have hgl := grid_len hpg
    refine WN.call prg [] [] (by simp) rfl (by simp; rfl) (by simp) (CallsA.at (by simp) (by simp) (c_copyPuzzle p (by omega) (by omega) (fun r hr => by have := rule_len (hpr r hr); omega))) ?_
    rintro _ _ ⟨rfl, rfl⟩
    refine ⟨_, by simp; rfl, ?_⟩
    refine WN.op prg (by simp) (by simp; rfl) (by simp) ?_
    refine WN.op prg (by simp) (by simp; rfl) (by first | (simp; done) | (simp; omega)) ?_
    refine WN.keep [1, 2, 4, 6] ?_
    refine WP.seq ?_
    refine WP.regN prg (by kernel_rfl) ?_ -- region 4
    refine WN.op prg (by simp) (by simp; rfl) (by simp) ?_
    refine WN.op prg (by simp) (by simp; rfl) (by first | (simp; done) | (simp; omega)) ?_
    refine WN.op prg (by simp) (by simp; rfl) (by simp) ?_
    refine WN.call prg [] [] (by simp) rfl (by simp; rfl) (by simp) (CallsA.at (by simp) (by simp) (c_bothGrids_ok p.given g p.size hpg hg hag)) ?_
    rintro _ _ ⟨rfl, rfl⟩
    refine ⟨_, by simp; rfl, ?_⟩
    refine WN.op prg (by simp) (by simp; rfl) (by simp) ?_
    refine WN.op prg (by simp) (by simp; rfl) (by simp) ?_
    refine WN.op prg (by simp) (by simp; rfl) (by simp) ?_
    refine WN.op prg (by simp) (by simp; rfl) (by simp) ?_
    refine WN.op prg (by simp) (by simp; rfl) (by first | (simp; done) | (simp; omega)) ?_
    refine WN.keep [4, 6] ?_
    refine WP.seq ?_
    refine WP.regN prg (by kernel_rfl) ?_ -- region 5
    refine WN.op prg (by simp) (by simp; rfl) (by first | (simp; done) | (simp; omega)) ?_
    have hxo := withP_ok hpo hg
    refine WN.call prg [] [] (by simp) rfl (by simp; rfl) (by simp) (CallsA.at (by simp [withP]) (by simp) (c_implStartMasks (withP p g) (puzzleOk_fits hxo))) ?_
    rintro _ _ ⟨rfl, rfl⟩
    refine ⟨_, by simp; rfl, ?_⟩
    refine WN.op prg (by simp) (by simp; rfl) (by simp) ?_
    refine WN.keep [4, 6, 7] ?_
    refine WP.block ?_
    have hxs : (withP p g).size = p.size := rfl
    have hsm := gridMasks_ok (puzzleOk_iff.1 hxo).1
    rw [← start_ok hxo] at hsm
    have hinit : nextHint p g = hintFrom (withP p g) (startMasks (withP p g)) := by simp [nextHint, hfit]
    refine WP.loop (fun i s => ∃ (ms : List Int), masksOk ms p.size = true ∧ nextHint p g = hintFrom (withP p g) ms ∧ i = ms.sum.toNat ∧
      s = ⟨[(4, .v (.c (.ptr 32 0 0 0))), (6, .v (.c (.ptr 48 0 0 0))), (7, .v (.c (.dsl true (.ints .i64 (ms)))))], [(16, .box 0 [.int .i64 p.size, .dsl false (.ints .i64 p.given), .dsl false (rulesD p.rules)]), (32, .box 0 [.int .i64 0, .int .i64 0, .int .i64 0]), (48, .box 0 [.int .i64 p.size, .dsl true (.ints .i64 (withG p.given g)), .dsl true (rulesD p.rules)])]⟩) ((startMasks (withP p g)).sum.toNat)
      ⟨startMasks (withP p g), hsm, hinit, rfl, by simp⟩ ?_
    rintro _ _ ⟨ms, hm, hrest, rfl, rfl⟩
    have hml := masks_len hm
    refine WP.block ?_
    refine WP.seq ?_
    refine WP.regN prg (by kernel_rfl) ?_ -- region 6
    refine WN.op prg (by simp) (by simp; rfl) (by first | (simp; done) | (simp; omega)) ?_
    refine WN.op prg (by simp) (by simp; rfl) (by simp) ?_
    refine WN.call prg [] [] (by simp) rfl (by simp; rfl) (by simp) (CallsA.at (by simp [withP]) (by simp) (c_nextRound' (withP p g) ms 4 hxo hm (by omega))) ?_
    rintro _ _ ⟨rfl, rfl⟩
    refine ⟨_, by simp; rfl, ?_⟩
    refine WN.op prg (by simp) (by simp; rfl) (by simp) ?_
    refine WN.op prg (by simp) (by simp; rfl) (by simp) ?_
    refine WN.op prg (by simp) (by simp; rfl) (by simp) ?_
    refine WN.op prg (by simp) (by simp; rfl) (by simp) ?_
    refine WN.op prg (by simp) (by simp; rfl) (by simp) ?_
    refine WN.keep [4, 6, 8, 9] ?_
    refine WP.seq ?_
    refine WP.seq ?_
    refine WP.regN prg (by kernel_rfl) ?_ -- region 7
    refine WN.op prg (by simp) (by simp; rfl) (by simp) ?_
    refine WN.op prg (by simp) (by simp; rfl) (by simp) ?_
    refine WN.keep [4, 6, 8, 9, 37] ?_
    refine WP.cond (by first | rfl | (simp; rfl)) (fun hb => ?_) (fun hb => ?_)
    · try simp at hb
      refine WP.seq ?_
      refine WP.regN prg (by kernel_rfl) ?_ -- region 8
      refine WN.op prg (by simp) (by simp; rfl) (by simp) ?_
      refine WN.op prg (by simp) (by simp; rfl) (by first | (simp; done) | (simp; omega)) ?_
      refine WN.op prg (by simp) (by simp; rfl) (by simp) ?_
      refine WN.keep [4, 5] ?_
      refine WP.ret (DoneQ.ret [] (by simp; rfl) (by simp; rfl) ?_)
      have hnr : nextRound (withP p g) ms 4 1 = none := by
        cases e : nextRound (withP p g) ms 4 1 with
        | none => rfl
        | some q =>
          obtain ⟨l, t⟩ := q
          obtain ⟨_, _, h3, _, _⟩ := nextRound_some e
          rw [e] at hb
          simp [roundT] at hb
          omega
      have hh : nextHint p g = none := by rw [hrest, hintFrom_none hnr]
      rw [hh]
      exact ⟨by simp, by simp [hintV]⟩
    · try simp at hb
      refine WP.skip ?_
      refine WP.seq ?_
      refine WP.regN prg (by kernel_rfl) ?_ -- region 9
      refine WN.op prg (by simp) (by simp; rfl) (by simp) ?_
      refine WN.op prg (by simp) (by simp; rfl) (by simp) ?_
      refine WN.keep [4, 6, 7, 9] ?_
      refine WP.seq ?_
      refine WP.regN prg (by kernel_rfl) ?_ -- region 10
      refine WN.op prg (by simp) (by simp; rfl) (by simp) ?_
      refine WN.op prg (by simp) (by simp; rfl) (by simp) ?_
      refine WN.op prg (by simp) (by simp; rfl) (by simp) ?_
      refine WN.keep [4, 6, 7, 9, 40, 41, 42] ?_
      refine WP.block ?_
      obtain ⟨nx, t, hnr⟩ : ∃ nx t, nextRound (withP p g) ms 4 1 = some (nx, t) := by
        cases e : nextRound (withP p g) ms 4 1 with
        | none => rw [e] at hb; simp [roundT] at hb
        | some q => exact ⟨q.1, q.2, rfl⟩
      obtain ⟨e1, e2, e3, e4, _⟩ := nextRound_some hnr
      have hks := narrow_sum hxo hm (t := t) (by omega) (by omega) (e1 ▸ e2)
      rw [← e1] at hks
      obtain ⟨hk1, hk2, hk3⟩ := hks
      have hstep := hintFrom_some hxo hm hnr
      have hnl := masks_len hk1
      have hglen : (withG p.given g).length = nx.length := by
        have h1 := (gridOk_size (puzzleOk_iff.1 hxo).1).2.2
        have h2 := (masksOk_iff.1 hk1).2.2.1
        have : ((withP p g).given.length : Int) = nx.length := by omega
        have h3 : (withP p g).given = withG p.given g := rfl
        rw [h3] at this
        omega
      rw [hnr]
      simp only [roundM, roundT, Option.map_some, Option.getD_some]
      refine WP.loopU (nx.length) (fun k => [(42, .v (.c (.int .i64 (k))))]) (fun k => []) (fun k => (∀ j, j < k → hintCell (withG p.given g) nx j = false)) (fun k => by simp [putAll]; rfl) (fun k => by simp; rfl) (by simp) (by simp) (by simp) ?_
      intro k hk hno
      refine WP.seq ?_
      refine WP.regN prg (by kernel_rfl) ?_ -- region 11
      refine WN.op prg (by simp) (by simp; rfl) (by simp) ?_
      refine WN.keep [4, 6, 7, 9, 40, 41, 42, 43] ?_
      refine WP.seq ?_
      refine WP.cond (by first | rfl | (simp; rfl)) (fun hb => ?_) (fun hb => ?_)
      · try simp at hb
        refine WP.skip ?_
        refine WP.seq ?_
        refine WP.block ?_
        refine WP.seq ?_
        refine WP.regN prg (by kernel_rfl) ?_ -- region 12
        refine WN.op prg (by simp) (by simp; rfl) (by simp) ?_
        refine WN.op prg (by simp) (by simp; rfl) (by first | (simp; done) | (simp; omega)) ?_
        refine WN.op prg (by simp) (by simp; rfl) (by first | (simp; done) | (simp; omega)) ?_
        refine WN.op prg (by simp) (by simp; rfl) (by simp) ?_
        refine WN.op prg (by simp) (by simp; rfl) (by simp) ?_
        refine WN.keep [4, 6, 7, 9, 10, 11, 40, 41, 42] ?_
        refine WP.seq ?_
        refine WP.regN prg (by kernel_rfl) ?_ -- region 13
        refine WN.op prg (by simp) (by simp; rfl) (by simp) ?_
        have hop := onlyV_pos (nx[k]?.getD 0)
        refine WN.call prg [] [] (by simp) rfl (by simp; rfl) (by simp) (CallsA.at (by simp) (by simp) (c_onlyValue (nx[k]?.getD 0))) ?_
        rintro _ _ ⟨rfl, rfl⟩
        refine ⟨_, by simp; rfl, ?_⟩
        refine WN.op prg (by simp) (by simp; rfl) (by simp) ?_
        refine WN.keep [4, 6, 7, 9, 10, 12, 40, 41, 42] ?_
        refine WP.seq ?_
        refine WP.regN prg (by kernel_rfl) ?_ -- region 14
        refine WN.op prg (by simp) (by simp; rfl) (by simp) ?_
        refine WN.op prg (by simp) (by simp; rfl) (by simp) ?_
        refine WN.op prg (by simp) (by simp; rfl) (by simp) ?_
        apply WN.join (t := 58) 7 51
        · first | rfl | (simp; rfl)
        · intro hg51
          refine WN.op prg (by simp) (by simp; rfl) (by simp) ?_
          refine WN.op prg (by simp) (by simp; rfl) (by first | (simp; done) | (simp; omega)) ?_
          refine WN.op prg (by simp) (by simp; rfl) (by simp) ?_
          refine WN.op prg (by simp) (by simp; rfl) (by first | (simp; done) | (simp; omega)) ?_
          refine WN.op prg (by simp) (by simp; rfl) (by first | (simp; done) | (simp; omega)) ?_
          refine WN.op prg (by simp) (by simp; rfl) (by simp) ?_
          refine WN.op prg (by simp) (by simp; rfl) (by simp) ?_
          exact WN.keep [58, 4, 6, 7, 9, 10, 12, 40, 41, 42] rfl
        · intro hg51
          refine WN.skip prg (by simp) ?_
          refine WN.skip prg (by simp) ?_
          refine WN.skip prg (by simp) ?_
          refine WN.skip prg (by simp) ?_
          refine WN.skip prg (by simp) ?_
          refine WN.skip prg (by simp) ?_
          refine WN.op prg (by simp) (by simp; rfl) (by simp) ?_
          exact WN.keep [58, 4, 6, 7, 9, 10, 12, 40, 41, 42] rfl
        refine WN.keep [4, 6, 7, 9, 10, 12, 40, 41, 42, 58] ?_
        refine WP.cond (by first | rfl | (simp; rfl)) (fun hb => ?_) (fun hb => ?_)
        · try simp at hb
          refine WP.seq ?_
          refine WP.regN prg (by kernel_rfl) ?_ -- region 15
          refine WN.op prg (by simp) (by simp; rfl) (by simp) ?_
          refine WN.op prg (by simp) (by simp; rfl) (by simp) ?_
          refine WN.op prg (by simp) (by simp; rfl) (by simp) ?_
          refine WN.op prg (by simp) (by simp; rfl) (by simp) ?_
          refine WN.op prg (by simp) (by simp; rfl) (by first | (simp; done) | (simp; omega)) ?_
          refine WN.op prg (by simp) (by simp; rfl) (by simp) ?_
          refine WN.keep [4, 5] ?_
          refine WP.ret (DoneQ.ret [] (by simp; rfl) (by simp; rfl) ?_)
          have hc : hintCell (withG p.given g) nx k = true := by simp [hintCell, hb.2, hop.2.2 hb.1]
          have hh : nextHint p g = some (t, k, onlyV (nx[k]?.getD 0)) := by rw [hrest, hstep, show (withP p g).given = withG p.given g from rfl, hintAt_some (by omega) hno hc]
          rw [hh]
          exact ⟨by simp, by simp [hintV]⟩
        · try simp at hb
          refine WP.skip ?_
          refine WP.regN prg (by kernel_rfl) ?_ -- region 16
          refine WN.op prg (by simp) (by simp; rfl) (by simp) ?_
          refine WN.op prg (by simp) (by simp; rfl) (by simp) ?_
          refine WN.keep [4, 6, 7, 9, 40, 41, 42] ?_
          have hs : hintCell (withG p.given g) nx k = false := by
            unfold hintCell
            by_cases h0 : (withG p.given g)[k]?.getD 0 = 0
            · have h1 : ¬ 0 < onlyV (nx[k]?.getD 0) := fun h => absurd h0 (hb h)
              have h2 : single (nx[k]?.getD 0) = false := by rw [Bool.eq_false_iff]; exact fun h => h1 (hop.2.1 h)
              simp [h2]
            · simp [h0]
          refine ⟨by omega, fun j hj => ?_, by simp [wrap_id (n := (k : Int) + 1) (by omega) (by omega)]⟩
          by_cases h : j = k
          · subst h; exact hs
          · exact hno j (by omega)
      · try simp at hb
        refine WP.keep [4, 6, 7] ?_
        refine WP.exit ?_
        have hno' : hintAt (withP p g).given nx = none := hintAt_none fun j hj => hno j (by omega)
        rw [hno'] at hstep
        exact ⟨nx.sum.toNat, by omega, nx, hk1, by rw [hrest, hstep], rfl, by simp⟩
end Go.Proofs.Ytaicenafkjbnoaa

