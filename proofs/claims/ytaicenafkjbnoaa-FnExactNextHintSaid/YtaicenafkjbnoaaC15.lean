/- Contracts: rules narrow, rounds, the next hint (reference). -/
import Derived.Test.YtaicenafkjbnoaaC14
set_option linter.unusedVariables false
set_option linter.unusedSimpArgs false
namespace Go.Proofs.Ytaicenafkjbnoaa
open Go Go.AM
set_option maxRecDepth 100000

def setR (cs fs out : List Int) (j : Nat) : List Int := out.set (cs[j]?.getD 0).toNat (fs[j]?.getD 0)
theorem setR_all : ∀ (cs fs out : List Int), fs.length = cs.length → (List.range cs.length).foldl (setR cs fs) out = setAll out cs fs
  | [], fs, out, h => by cases fs <;> simp [setAll] at h ⊢
  | c :: cs, [], out, h => by simp at h
  | c :: cs, m :: fs, out, h => by
    have ih := setR_all cs fs (out.set c.toNat m) (by simpa using h)
    rw [List.length_cons, List.range_succ_eq_map, List.foldl_cons, List.foldl_map]
    unfold setAll
    rw [← ih]
    rfl
theorem setR_len (cs fs out : List Int) (k : Nat) : ((List.range k).foldl (setR cs fs) out).length = out.length := by
  induction k with
  | zero => rfl
  | succ k ih => rw [foldl_range, setR, List.length_set, ih]
theorem c_specNarrow4 (p : Puzzle) (ms : List Int) (hp : puzzleOk p = true) (hm : masksOk ms p.size = true) : CallsA Try.prog 129 [p.v false, .c (.dsl false (.ints .i64 (ms)))] [] fun r ho => ho = [] ∧ r = .v (.c (.dsl true (.ints .i64 (narrow4 p ms)))) := by
  have hml := masks_len hm
  obtain ⟨hpg, hp20, hpr⟩ := puzzleOk_iff.1 hp
  obtain ⟨h2, h4, hll, hall⟩ := masksOk_iff.1 hm
  unfold Puzzle.v rulesD
  refine CallsA.of (tv := tyOf Try.prog) (fn := Try.f129) prg.tv Try.func129 rfl rfl (by simp) ?_
  refine WP.seq ?_
  refine WP.regN prg (by kernel_rfl) ?_ -- region 0
  refine WN.op prg (by simp) (by simp; rfl) (by simp) ?_
  refine WN.op prg (by simp) (by simp; rfl) (by simp) ?_
  refine WN.keep [1, 2] ?_
  refine WP.seq ?_
  refine WP.seq ?_
  refine WP.regN prg (by kernel_rfl) ?_ -- region 1
  refine WN.op prg (by simp) (by simp; rfl) (by first | (simp; done) | (simp; omega)) ?_
  refine WN.call prg [] [] (by simp) rfl (by simp; rfl) (by simp) (CallsA.at (by simp) (by simp) (c_specPuzzleValid_ok p hp)) ?_
  rintro _ _ ⟨rfl, rfl⟩
  refine ⟨_, by simp; rfl, ?_⟩
  refine WN.op prg (by simp) (by simp; rfl) (by simp) ?_
  refine WN.op prg (by simp) (by simp; rfl) (by simp) ?_
  apply WN.join (t := 19) 6 13
  · first | rfl | (simp; rfl)
  · intro hg13
    refine WN.skip prg (by simp) ?_
    refine WN.skip prg (by simp) ?_
    refine WN.skip prg (by simp) ?_
    refine WN.skip prg (by simp) ?_
    refine WN.skip prg (by simp) ?_
    refine WN.op prg (by simp) (by simp; rfl) (by simp) ?_
    exact WN.keep [19, 1, 2] rfl
  · intro hg13
    refine WN.op prg (by simp) (by simp; rfl) (by simp) ?_
    refine WN.op prg (by simp) (by simp; rfl) (by simp) ?_
    refine WN.op prg (by simp) (by simp; rfl) (by first | (simp; done) | (simp; omega)) ?_
    refine WN.call prg [] [] (by simp) rfl (by simp; rfl) (by simp) (CallsA.at (by simp) (by simp) (c_specMasksValid ms p.size hm)) ?_
    rintro _ _ ⟨rfl, rfl⟩
    refine ⟨_, by simp; rfl, ?_⟩
    refine WN.op prg (by simp) (by simp; rfl) (by simp) ?_
    refine WN.op prg (by simp) (by simp; rfl) (by simp) ?_
    exact WN.keep [19, 1, 2] rfl
  refine WN.keep [1, 2, 19] ?_
  refine WP.cond (by first | rfl | (simp; rfl)) (fun hb => ?_) (fun hb => ?_)
  · exact absurd hb (by simp)
  · try simp at hb
    refine WP.skip ?_
    refine WP.seq ?_
    refine WP.regN prg (by kernel_rfl) ?_ -- region 3
    refine WN.op prg (by simp) (by simp; rfl) (by simp) ?_
    refine WN.call prg [] [] (by simp) rfl (by simp; rfl) (by simp) (CallsA.at (by simp) (by simp) (c_l6Copy ms (by omega))) ?_
    rintro _ _ ⟨rfl, rfl⟩
    refine ⟨_, by simp; rfl, ?_⟩
    refine WN.op prg (by simp) (by simp; rfl) (by simp) ?_
    refine WN.keep [2, 5] ?_
    refine WP.seq ?_
    refine WP.seq ?_
    refine WP.regN prg (by kernel_rfl) ?_ -- region 4
    refine WN.op prg (by simp) (by simp; rfl) (by simp) ?_
    refine WN.keep [2, 5, 6] ?_
    refine WP.block ?_
    refine WP.loopU (p.rules.length) (fun k => [(6, .v (.c (.int .i64 (k))))]) (fun k => [(176, .arr 0 true (.ints .i64 ((p.rules.take k).foldl rule1 ms)))]) (fun k => True) (fun k => by simp [putAll]; rfl) (fun k => by simp; rfl) (by simp) (by simp) (by simp) ?_
    intro k hk _
    have hsub := rules_sub hm (p.rules.take k)
    have hmk := hsub.ok hm
    have hlk := hsub.1
    refine WP.seq ?_
    refine WP.seq ?_
    refine WP.regN prg (by kernel_rfl) ?_ -- region 5
    refine WN.op prg (by simp) (by simp; rfl) (by simp) ?_
    refine WN.op prg (by simp) (by simp; rfl) (by simp) ?_
    refine WN.op prg (by simp) (by simp; rfl) (by first | (simp; done) | (simp; omega)) ?_
    refine WN.op prg (by simp) (by simp; rfl) (by simp) ?_
    refine WN.op prg (by simp) (by simp; rfl) (by simp) ?_
    refine WN.keep [2, 5, 6, 27] ?_
    refine WP.cond (by first | rfl | (simp; rfl)) (fun hb => ?_) (fun hb => ?_)
    · try simp at hb
      refine WP.skip ?_
      refine WP.seq ?_
      refine WP.block ?_
      refine WP.seq ?_
      refine WP.regN prg (by kernel_rfl) ?_ -- region 7
      obtain ⟨r, hr⟩ : ∃ r, p.rules[k]? = some r := ⟨_, List.getElem?_eq_getElem (by omega)⟩
      refine WN.op prg (by simp) (by simp; rfl) (by simp) ?_
      refine WN.op prg (by simp) (by simp; rfl) (by first | (simp; done) | (simp; omega)) ?_
      refine WN.op prg (by simp) (by simp; rfl) (by simp) ?_
      refine WN.op prg (by simp) (by simp; rfl) (by first | (simp; done) | (simp; omega)) ?_
      refine WN.op prg (by simp) (by simp [hr, Rule.d]; rfl) (by simp) ?_
      refine WN.op prg (by simp) (by simp; rfl) (by simp) ?_
      refine WN.op prg (by simp) (by simp; rfl) (by first | (simp; done) | (simp; omega)) ?_
      refine WN.keep [2, 5, 6, 7] ?_
      refine WP.seq ?_
      refine WP.regN prg (by kernel_rfl) ?_ -- region 8
      refine WN.op prg (by simp) (by simp; rfl) (by first | (simp; done) | (simp; omega)) ?_
      refine WN.op prg (by simp) (by simp; rfl) (by simp) ?_
      refine WN.op prg (by simp) (by simp; rfl) (by simp) ?_
      refine WN.op prg (by simp) (by simp; rfl) (by first | (simp; done) | (simp; omega)) ?_
      have hro := hpr r (List.mem_of_getElem? hr)
      have hrl := rule_len hro
      have hpw := wayPre hro hmk
      refine WN.call prg [] [176] (by simp) rfl (by simp; rfl) (by simp) (CallsA.at (by simp [List.take_of_length_le, hlk]) (by simp) (c_specRuleMasks r ((p.rules.take k).foldl rule1 ms) p.size hro hmk)) ?_
      rintro _ _ ⟨rfl, rfl⟩
      refine ⟨_, by simp; rfl, ?_⟩
      refine WN.op prg (by simp) (by simp; rfl) (by simp) ?_
      refine WN.keep [2, 5, 6, 7, 8] ?_
      refine WP.seq ?_
      refine WP.regN prg (by kernel_rfl) ?_ -- region 9
      refine WN.op prg (by simp) (by simp; rfl) (by simp) ?_
      refine WN.keep [2, 5, 6, 7, 8, 9] ?_
      refine WP.block ?_
      have hfl := ruleMasks_len (tryPre_own hpw)
      have hol : (ownOf r ((p.rules.take k).foldl rule1 ms)).length = r.cells.length := by simp [ownOf]
      refine WP.loopU (r.cells.length) (fun j => [(9, .v (.c (.int .i64 (j))))]) (fun j => [(176, .arr 0 true (.ints .i64 ((List.range j).foldl (setR r.cells (ruleMasks r (ownOf r ((p.rules.take k).foldl rule1 ms)))) ((p.rules.take k).foldl rule1 ms))))]) (fun j => True) (fun k => by simp [putAll]; rfl) (fun k => by simp; rfl) (by simp) (by simp) (by simp) ?_
      intro j hk _
      have hat := fun h : j < r.cells.length => hpw.at_ h
      have hsl := setR_len r.cells (ruleMasks r (ownOf r ((p.rules.take k).foldl rule1 ms))) ((p.rules.take k).foldl rule1 ms) j
      refine WP.seq ?_
      refine WP.seq ?_
      refine WP.regN prg (by kernel_rfl) ?_ -- region 10
      refine WN.op prg (by simp) (by simp; rfl) (by simp) ?_
      refine WN.op prg (by simp) (by simp; rfl) (by simp) ?_
      refine WN.op prg (by simp) (by simp; rfl) (by first | (simp; done) | (simp; omega)) ?_
      refine WN.op prg (by simp) (by simp; rfl) (by simp) ?_
      refine WN.op prg (by simp) (by simp; rfl) (by simp) ?_
      refine WN.keep [2, 5, 6, 7, 8, 9, 44] ?_
      refine WP.cond (by first | rfl | (simp; rfl)) (fun hb => ?_) (fun hb => ?_)
      · try simp at hb
        refine WP.skip ?_
        refine WP.seq ?_
        refine WP.block ?_
        refine WP.reg prg (by kernel_rfl) ?_ -- region 12 DRAWS
        refine WS.d (by simp) (by simp; rfl) (by simp) (by kernel_rfl) ?_
        refine WS.d (by simp) (by simp; rfl) (by simp) (by kernel_rfl) ?_
        refine WS.d (by simp) (by simp; rfl) (by first | (simp; done) | (simp; omega)) (by kernel_rfl) ?_
        refine WS.d (by simp) (by simp; rfl) (by simp) (by kernel_rfl) ?_
        refine WS.d (by simp) (by simp; rfl) (by first | (simp; done) | (simp; omega)) (by kernel_rfl) ?_
        refine WS.d (by simp) (by simp; rfl) (by first | (simp; done) | (simp; omega)) (by kernel_rfl) ?_
        refine WS.d (by simp) (by simp; rfl) (by simp) (by kernel_rfl) ?_
        refine WS.d (by simp) (by simp; rfl) (by simp) (by kernel_rfl) ?_
        refine WS.d (by simp) (by simp; rfl) (by first | (simp; done) | (simp; omega)) (by kernel_rfl) ?_
        refine WS.d (by simp) (by simp; rfl) (by first | (simp; done) | (simp; omega)) (by kernel_rfl) ?_
        refine WS.d (by simp) (by simp; rfl) (by first | (simp; done) | (simp; omega)) (by kernel_rfl) ?_
        refine WS.d (by simp) (by simp; rfl) (by first | (simp; done) | (simp; omega)) (by kernel_rfl) ?_
        refine WS.keep [2, 5, 6, 7, 8, 9] ?_
        refine WP.regN prg (by kernel_rfl) ?_ -- region 11
        refine WN.op prg (by simp) (by simp; rfl) (by simp) ?_
        refine WN.op prg (by simp) (by simp; rfl) (by simp) ?_
        refine WN.op prg (by simp) (by simp; rfl) (by simp) ?_
        refine WN.keep [2, 5, 6, 7, 8, 9] ?_
        exact ⟨by omega, trivial, by simp [foldl_range, setR, wrap_id (n := (j : Int) + 1) (by omega) (by omega)]⟩
      · try simp at hb
        refine WP.exit ?_
        refine WP.regN prg (by kernel_rfl) ?_ -- region 6
        refine WN.tidy [2, 5, 6] [16, 176] (by simp; rfl) ?_
        refine WN.op prg (by simp) (by simp; rfl) (by simp) ?_
        refine WN.op prg (by simp) (by simp; rfl) (by simp) ?_
        refine WN.op prg (by simp) (by simp; rfl) (by simp) ?_
        refine WN.keep [2, 5, 6] ?_
        have hj : j = r.cells.length := by omega
        refine ⟨by omega, trivial, ?_⟩
        have e := foldl_take rule1 ms hr
        have e2 := setR_all r.cells (ruleMasks r (ownOf r ((p.rules.take k).foldl rule1 ms))) ((p.rules.take k).foldl rule1 ms) (by omega)
        simp [e, rule1, hj, e2, wrap_id (n := (k : Int) + 1) (by omega) (by omega)]
    · try simp at hb
      refine WP.exit ?_
      refine WP.seq ?_
      refine WP.regN prg (by kernel_rfl) ?_ -- region 13
      refine WN.op prg (by simp) (by simp; rfl) (by simp) ?_
      refine WN.op prg (by simp) (by simp; rfl) (by simp) ?_
      refine WN.keep [4] ?_
      refine WP.ret (DoneQ.ret [] (by simp; rfl) (by simp; rfl) ?_)
      have hkk : k = p.rules.length := by omega
      rw [hkk, List.take_length] at hlk
      exact ⟨rfl, by simp [narrow4, hp, hm, hkk, List.take_of_length_le, hlk]⟩
theorem c_specNarrowBy (p : Puzzle) (ms : List Int) (t : Int) (hp : puzzleOk p = true) (hm : masksOk ms p.size = true) (h1 : 1 ≤ t) (ht : t ≤ 4) : CallsA Try.prog 85 [p.v false, .c (.dsl false (.ints .i64 (ms))), .c (.int .i64 (t))] [] fun r ho => ho = [] ∧ r = .v (.c (.dsl true (.ints .i64 (narrowBy p ms t)))) := by
  unfold Puzzle.v rulesD
  refine CallsA.of (tv := tyOf Try.prog) (fn := Try.f85) prg.tv Try.func85 rfl rfl (by simp) ?_
  refine WP.seq ?_
  refine WP.regN prg (by kernel_rfl) ?_ -- region 0
  refine WN.op prg (by simp) (by simp; rfl) (by simp) ?_
  refine WN.op prg (by simp) (by simp; rfl) (by simp) ?_
  refine WN.keep [1, 2, 3] ?_
  refine WP.seq ?_
  refine WP.seq ?_
  refine WP.regN prg (by kernel_rfl) ?_ -- region 1
  refine WN.op prg (by simp) (by simp; rfl) (by first | (simp; done) | (simp; omega)) ?_
  refine WN.call prg [] [] (by simp) rfl (by simp; rfl) (by simp) (CallsA.at (by simp) (by simp) (c_specPuzzleValid_ok p hp)) ?_
  rintro _ _ ⟨rfl, rfl⟩
  refine ⟨_, by simp; rfl, ?_⟩
  refine WN.op prg (by simp) (by simp; rfl) (by simp) ?_
  refine WN.op prg (by simp) (by simp; rfl) (by simp) ?_
  apply WN.join (t := 16) 6 10
  · first | rfl | (simp; rfl)
  · intro hg10
    refine WN.skip prg (by simp) ?_
    refine WN.skip prg (by simp) ?_
    refine WN.skip prg (by simp) ?_
    refine WN.skip prg (by simp) ?_
    refine WN.skip prg (by simp) ?_
    refine WN.op prg (by simp) (by simp; rfl) (by simp) ?_
    exact WN.keep [16, 1, 2, 3] rfl
  · intro hg10
    refine WN.op prg (by simp) (by simp; rfl) (by simp) ?_
    refine WN.op prg (by simp) (by simp; rfl) (by simp) ?_
    refine WN.op prg (by simp) (by simp; rfl) (by first | (simp; done) | (simp; omega)) ?_
    refine WN.call prg [] [] (by simp) rfl (by simp; rfl) (by simp) (CallsA.at (by simp) (by simp) (c_specMasksValid ms p.size hm)) ?_
    rintro _ _ ⟨rfl, rfl⟩
    refine ⟨_, by simp; rfl, ?_⟩
    refine WN.op prg (by simp) (by simp; rfl) (by simp) ?_
    refine WN.op prg (by simp) (by simp; rfl) (by simp) ?_
    exact WN.keep [16, 1, 2, 3] rfl
  refine WN.keep [1, 2, 3, 16] ?_
  refine WP.cond (by first | rfl | (simp; rfl)) (fun hb => ?_) (fun hb => ?_)
  · exact absurd hb (by simp)
  · try simp at hb
    refine WP.skip ?_
    refine WP.seq ?_
    refine WP.seq ?_
    refine WP.regN prg (by kernel_rfl) ?_ -- region 3
    refine WN.op prg (by simp) (by simp; rfl) (by simp) ?_
    refine WN.keep [1, 3, 18] ?_
    refine WP.block ?_
    refine WP.seq ?_
    refine WP.regN prg (by kernel_rfl) ?_ -- region 4
    refine WN.op prg (by simp) (by simp; rfl) (by simp) ?_
    refine WN.op prg (by simp) (by simp; rfl) (by simp) ?_
    refine WN.keep [1, 3, 18, 19] ?_
    refine WP.cond (by first | rfl | (simp; rfl)) (fun hb => ?_) (fun hb => ?_)
    · try simp at hb
      refine WP.seq ?_
      refine WP.regN prg (by kernel_rfl) ?_ -- region 5
      refine WN.op prg (by simp) (by simp; rfl) (by simp) ?_
      refine WN.op prg (by simp) (by simp; rfl) (by simp) ?_
      refine WN.op prg (by simp) (by simp; rfl) (by first | (simp; done) | (simp; omega)) ?_
      refine WN.call prg [] [] (by simp) rfl (by simp; rfl) (by simp) (CallsA.at (by simp) (by simp) (c_specNarrow1 ms p.size hm)) ?_
      rintro _ _ ⟨rfl, rfl⟩
      refine ⟨_, by simp; rfl, ?_⟩
      refine WN.op prg (by simp) (by simp; rfl) (by simp) ?_
      refine WN.keep [6] ?_
      refine WP.ret (DoneQ.ret [] (by simp; rfl) (by simp; rfl) ?_)
      exact ⟨rfl, by simp [narrowBy, hp, hm, hb]⟩
    · try simp at hb
      refine WP.seq ?_
      refine WP.regN prg (by kernel_rfl) ?_ -- region 6
      refine WN.op prg (by simp) (by simp; rfl) (by simp) ?_
      refine WN.op prg (by simp) (by simp; rfl) (by simp) ?_
      refine WN.keep [1, 3, 18, 25] ?_
      refine WP.cond (by first | rfl | (simp; rfl)) (fun hb => ?_) (fun hb => ?_)
      · try simp at hb
        refine WP.seq ?_
        refine WP.regN prg (by kernel_rfl) ?_ -- region 7
        refine WN.op prg (by simp) (by simp; rfl) (by simp) ?_
        refine WN.op prg (by simp) (by simp; rfl) (by simp) ?_
        refine WN.op prg (by simp) (by simp; rfl) (by first | (simp; done) | (simp; omega)) ?_
        refine WN.call prg [] [] (by simp) rfl (by simp; rfl) (by simp) (CallsA.at (by simp) (by simp) (c_specNarrow2 ms p.size hm)) ?_
        rintro _ _ ⟨rfl, rfl⟩
        refine ⟨_, by simp; rfl, ?_⟩
        refine WN.op prg (by simp) (by simp; rfl) (by simp) ?_
        refine WN.keep [6] ?_
        refine WP.ret (DoneQ.ret [] (by simp; rfl) (by simp; rfl) ?_)
        exact ⟨rfl, by simp [narrowBy, hp, hm, hb]⟩
      · try simp at hb
        refine WP.seq ?_
        refine WP.regN prg (by kernel_rfl) ?_ -- region 8
        refine WN.op prg (by simp) (by simp; rfl) (by simp) ?_
        refine WN.op prg (by simp) (by simp; rfl) (by simp) ?_
        refine WN.keep [1, 3, 18, 31] ?_
        refine WP.cond (by first | rfl | (simp; rfl)) (fun hb => ?_) (fun hb => ?_)
        · try simp at hb
          refine WP.seq ?_
          refine WP.regN prg (by kernel_rfl) ?_ -- region 9
          refine WN.op prg (by simp) (by simp; rfl) (by simp) ?_
          refine WN.op prg (by simp) (by simp; rfl) (by simp) ?_
          refine WN.op prg (by simp) (by simp; rfl) (by first | (simp; done) | (simp; omega)) ?_
          refine WN.call prg [] [] (by simp) rfl (by simp; rfl) (by simp) (CallsA.at (by simp) (by simp) (c_specNarrow3 ms p.size hm)) ?_
          rintro _ _ ⟨rfl, rfl⟩
          refine ⟨_, by simp; rfl, ?_⟩
          refine WN.op prg (by simp) (by simp; rfl) (by simp) ?_
          refine WN.keep [6] ?_
          refine WP.ret (DoneQ.ret [] (by simp; rfl) (by simp; rfl) ?_)
          exact ⟨rfl, by simp [narrowBy, hp, hm, hb]⟩
        · try simp at hb
          refine WP.seq ?_
          refine WP.regN prg (by kernel_rfl) ?_ -- region 10
          refine WN.op prg (by simp) (by simp; rfl) (by simp) ?_
          refine WN.op prg (by simp) (by simp; rfl) (by simp) ?_
          refine WN.keep [1, 3, 37] ?_
          refine WP.cond (by first | rfl | (simp; rfl)) (fun hb => ?_) (fun hb => ?_)
          · try simp at hb
            refine WP.seq ?_
            refine WP.regN prg (by kernel_rfl) ?_ -- region 11
            refine WN.op prg (by simp) (by simp; rfl) (by first | (simp; done) | (simp; omega)) ?_
            refine WN.op prg (by simp) (by simp; rfl) (by simp) ?_
            refine WN.call prg [] [] (by simp) rfl (by simp; rfl) (by simp) (CallsA.at (by simp) (by simp) (c_specNarrow4 p ms hp hm)) ?_
            rintro _ _ ⟨rfl, rfl⟩
            refine ⟨_, by simp; rfl, ?_⟩
            refine WN.op prg (by simp) (by simp; rfl) (by simp) ?_
            refine WN.keep [6] ?_
            refine WP.ret (DoneQ.ret [] (by simp; rfl) (by simp; rfl) ?_)
            exact ⟨rfl, by simp [narrowBy, hp, hm, hb]⟩
          · try simp at hb
            refine WP.skip ?_
            refine WP.seq ?_
            refine WP.regN prg (by kernel_rfl) ?_ -- region 12
            refine WN.op prg (by simp) (by simp; rfl) (by simp) ?_
            refine WN.op prg (by simp) (by simp; rfl) (by simp) ?_
            refine WN.keep [6] ?_
            refine WP.ret (DoneQ.ret [] (by simp; rfl) (by simp; rfl) ?_)
            exfalso
            omega
theorem nextRound_at {p : Puzzle} {ms : List Int} {t : Int} (hne : narrowBy p ms t ≠ ms) : ∀ (k : Nat) (t0 : Int), (∀ u, t0 ≤ u → u < t → narrowBy p ms u = ms) → t0 ≤ t → t < t0 + k → nextRound p ms k t0 = some (narrowBy p ms t, t)
  | 0, t0, _, h1, h2 => by omega
  | k + 1, t0, hs, h1, h2 => by
    by_cases e : t = t0
    · subst e
      exact nextRound_hit hne
    · rw [nextRound_skip (hs t0 (by omega) (by omega))]
      exact nextRound_at hne k (t0 + 1) (fun u g1 g2 => hs u (by omega) g2) (by omega) (by omega)
theorem nextRound_all {p : Puzzle} {ms : List Int} : ∀ (k : Nat) (t0 : Int), (∀ u, t0 ≤ u → u < t0 + k → narrowBy p ms u = ms) → nextRound p ms k t0 = none
  | 0, t0, _ => rfl
  | k + 1, t0, hs => by
    rw [nextRound_skip (hs t0 (by omega) (by omega))]
    exact nextRound_all k (t0 + 1) fun u g1 g2 => hs u (by omega) (by omega)
theorem single_only {m : Int} (h : maskOk 4 m = true) (hs : single m = true) : (maskVals m)[0]?.getD 0 = onlyV m := by
  obtain ⟨h0, h1, h2⟩ := maskOk_iff.1 h
  rw [allV4] at h1
  exact fin_all (p := fun m => m % 2 = 0 → single m = true → (maskVals m)[0]?.getD 0 = onlyV m) (N := 31) (by decide +kernel) h0 (by omega) h2 hs
def hintV : Option (Int × Nat × Int) → LV
  | some (t, c, v) => .tup [.agg [.int .i64 t, .int .i64 c, .int .i64 v], .c (.bool true)]
  | none => .tup [.agg [.int .i64 0, .int .i64 0, .int .i64 0], .c (.bool false)]
def hintRest (x : Puzzle) (ms : List Int) (last : Int) : Option (Int × Nat × Int) :=
  match hintAt x.given ms with
  | some (c, v) => some (last, c, v)
  | none => hintFrom x ms
theorem c_specNextHint (p : Puzzle) (g : List Int) (hp : p.Fits) (hl : g.length ≤ 140737488355328) : CallsA Try.prog 23 [p.v false, .c (.dsl false (.ints .i64 (g)))] [] fun r ho => ho = [] ∧ r = hintV (nextHint p g) := by
  unfold Puzzle.v rulesD
  refine CallsA.of (tv := tyOf Try.prog) (fn := Try.f23) prg.tv Try.func23 rfl rfl (by simp) ?_
  refine WP.seq ?_
  refine WP.regN prg (by kernel_rfl) ?_ -- region 0
  refine WN.op prg (by simp) (by simp; rfl) (by simp) ?_
  refine WN.op prg (by simp) (by simp; rfl) (by simp) ?_
  refine WN.op prg (by simp) (by simp; rfl) (by simp) ?_
  refine WN.keep [1, 2, 4] ?_
  refine WP.seq ?_
  refine WP.seq ?_
  refine WP.regN prg (by kernel_rfl) ?_ -- region 1
  refine WN.op prg (by simp) (by simp; rfl) (by first | (simp; done) | (simp; omega)) ?_
  refine WN.op prg (by simp) (by simp; rfl) (by simp) ?_
  refine WN.call prg [] [] (by simp) rfl (by simp; rfl) (by simp) (CallsA.at (by simp) (by simp) (c_specPuzzleFits p g hp hl)) ?_
  rintro _ _ ⟨rfl, rfl⟩
  refine ⟨_, by simp; rfl, ?_⟩
  refine WN.op prg (by simp) (by simp; rfl) (by simp) ?_
  refine WN.keep [1, 2, 4, 16] ?_
  refine WP.cond (by first | rfl | (simp; rfl)) (fun hb => ?_) (fun hb => ?_)
  · try simp at hb
    refine WP.seq ?_
    refine WP.regN prg (by kernel_rfl) ?_ -- region 2
    refine WN.op prg (by simp) (by simp; rfl) (by simp) ?_
    refine WN.op prg (by simp) (by simp; rfl) (by first | (simp; done) | (simp; omega)) ?_
    refine WN.op prg (by simp) (by simp; rfl) (by simp) ?_
    refine WN.keep [4, 5] ?_
    refine WP.ret (DoneQ.ret [] (by simp; rfl) (by simp; rfl) ?_)
    exact ⟨rfl, by simp [nextHint, hb, hintV]⟩
  · try simp at hb
    refine WP.skip ?_
    refine WP.seq ?_
    refine WP.regN prg (by kernel_rfl) ?_ -- region 3
    refine WN.op prg (by simp) (by simp; rfl) (by first | (simp; done) | (simp; omega)) ?_
    refine WN.op prg (by simp) (by simp; rfl) (by simp) ?_
    have hfit := hb
    have hpf : puzzleOk p = true ∧ gridOk g p.size = true := by
      simp only [puzzleFits, Bool.and_eq_true] at hb
      exact ⟨hb.1.1.1, hb.1.1.2⟩
    obtain ⟨hpo, hg⟩ := hpf
    have hpg := (puzzleOk_iff.1 hpo).1
    have hgl := grid_len hpg
    refine WN.call prg [] [] (by simp) rfl (by simp; rfl) (by simp) (CallsA.at (by simp) (by simp) (c_l23With p g (by omega) (grids_len hg hpg))) ?_
    rintro _ _ ⟨rfl, rfl⟩
    refine ⟨_, by simp; rfl, ?_⟩
    refine WN.op prg (by simp) (by simp; rfl) (by simp) ?_
    refine WN.op prg (by simp) (by simp; rfl) (by first | (simp; done) | (simp; omega)) ?_
    refine WN.keep [4, 6] ?_
    refine WP.seq ?_
    refine WP.regN prg (by kernel_rfl) ?_ -- region 4
    refine WN.op prg (by simp) (by simp; rfl) (by first | (simp; done) | (simp; omega)) ?_
    have hxo := withP_ok hpo hg
    refine WN.call prg [] [] (by simp) rfl (by simp; rfl) (by simp) (CallsA.at (by simp [withP]) (by simp) (c_specStartMasks (withP p g) hxo)) ?_
    rintro _ _ ⟨rfl, rfl⟩
    refine ⟨_, by simp; rfl, ?_⟩
    refine WN.op prg (by simp) (by simp; rfl) (by simp) ?_
    refine WN.keep [4, 6, 7] ?_
    refine WP.seq ?_
    refine WP.regN prg (by kernel_rfl) ?_ -- region 5
    refine WN.op prg (by simp) (by simp; rfl) (by simp) ?_
    refine WN.keep [4, 6, 7, 8] ?_
    refine WP.seq ?_
    refine WP.seq ?_
    refine WP.regN prg (by kernel_rfl) ?_ -- region 6
    refine WN.op prg (by simp) (by simp; rfl) (by simp) ?_
    refine WN.keep [4, 6, 7, 8, 9] ?_
    refine WP.block ?_
    have hxs : (withP p g).size = p.size := rfl
    have hsm := gridMasks_ok (puzzleOk_iff.1 hxo).1
    rw [← start_ok hxo] at hsm
    have hinit : nextHint p g = hintRest (withP p g) (startMasks (withP p g)) 0 := by simp [nextHint, hfit, hintRest, start_none hxo]
    refine WP.loop (fun i s => ∃ (ms : List Int) (t last : Int), masksOk ms p.size = true ∧ 1 ≤ t ∧ t ≤ 5 ∧ (∀ u, 1 ≤ u → u < t → narrowBy (withP p g) ms u = ms) ∧ (1 < t → hintAt (withP p g).given ms = none) ∧ nextHint p g = hintRest (withP p g) ms last ∧ i = ms.sum.toNat * 8 + (5 - t).toNat ∧
      s = ⟨[(4, .v (.c (.ptr 32 0 0 0))), (6, .v (.c (.ptr 48 0 0 0))), (7, .v (.c (.dsl true (.ints .i64 (ms))))), (8, .v (.c (.int .i64 (last)))), (9, .v (.c (.int .i64 (t))))], [(16, .box 0 [.int .i64 p.size, .dsl false (.ints .i64 p.given), .dsl false (rulesD p.rules)]), (32, .box 0 [.int .i64 0, .int .i64 0, .int .i64 0]), (48, .box 0 [.int .i64 p.size, .dsl true (.ints .i64 (withG p.given g)), .dsl false (rulesD p.rules)])]⟩) ((startMasks (withP p g)).sum.toNat * 8 + 4)
      ⟨startMasks (withP p g), 1, 0, hsm, by omega, by omega, fun u h1 h2 => by omega, fun h => by omega, hinit, by simp, by simp⟩ ?_
    rintro _ _ ⟨ms, t, last, hm, ht1, ht5, hskip, hseen, hrest, rfl, rfl⟩
    have hml := masks_len hm
    have hglen : (withG p.given g).length = ms.length := grids_len (puzzleOk_iff.1 hxo).1 (by obtain ⟨a, b, c, d⟩ := masksOk_iff.1 hm; exact (puzzleOk_iff.1 hxo).1) |>.trans (by have h1 := (gridOk_size (puzzleOk_iff.1 hxo).1).2.2; have h2 := (masksOk_iff.1 hm).2.2.1; rw [hxs] at h1; omega)
    refine WP.seq ?_
    refine WP.seq ?_
    refine WP.regN prg (by kernel_rfl) ?_ -- region 7
    refine WN.op prg (by simp) (by simp; rfl) (by simp) ?_
    refine WN.op prg (by simp) (by simp; rfl) (by simp) ?_
    refine WN.keep [4, 6, 7, 8, 9, 24] ?_
    refine WP.cond (by first | rfl | (simp; rfl)) (fun hb => ?_) (fun hb => ?_)
    · try simp at hb
      refine WP.skip ?_
      refine WP.block ?_
      refine WP.seq ?_
      refine WP.seq ?_
      refine WP.regN prg (by kernel_rfl) ?_ -- region 8
      refine WN.op prg (by simp) (by simp; rfl) (by simp) ?_
      refine WN.keep [4, 6, 7, 8, 9, 10] ?_
      refine WP.block ?_
      refine WP.loopU (ms.length) (fun k => [(10, .v (.c (.int .i64 (k))))]) (fun k => []) (fun k => (∀ j, j < k → hintCell (withG p.given g) ms j = false)) (fun k => by simp [putAll]; rfl) (fun k => by simp; rfl) (by simp) (by simp) (by simp) ?_
      intro k hk hno
      refine WP.seq ?_
      refine WP.seq ?_
      refine WP.regN prg (by kernel_rfl) ?_ -- region 9
      refine WN.op prg (by simp) (by simp; rfl) (by simp) ?_
      refine WN.op prg (by simp) (by simp; rfl) (by simp) ?_
      refine WN.op prg (by simp) (by simp; rfl) (by simp) ?_
      refine WN.op prg (by simp) (by simp; rfl) (by simp) ?_
      refine WN.keep [4, 6, 7, 8, 9, 10, 28] ?_
      refine WP.cond (by first | rfl | (simp; rfl)) (fun hb => ?_) (fun hb => ?_)
      · try simp at hb
        refine WP.skip ?_
        refine WP.seq ?_
        refine WP.block ?_
        refine WP.seq ?_
        refine WP.regN prg (by kernel_rfl) ?_ -- region 11
        refine WN.op prg (by simp) (by simp; rfl) (by simp) ?_
        refine WN.op prg (by simp) (by simp; rfl) (by simp) ?_
        refine WN.op prg (by simp) (by simp; rfl) (by first | (simp; done) | (simp; omega)) ?_
        refine WN.op prg (by simp) (by simp; rfl) (by first | (simp; done) | (simp; omega)) ?_
        have hk32 := masks32 hm (show k < ms.length by omega)
        refine WN.call prg [] [] (by simp) rfl (by simp; rfl) (by simp) (CallsA.at (by simp) (by simp) (c_specMaskValues (ms[k]?.getD 0))) ?_
        rintro _ _ ⟨rfl, rfl⟩
        refine ⟨_, by simp; rfl, ?_⟩
        refine WN.op prg (by simp) (by simp; rfl) (by simp) ?_
        refine WN.keep [4, 6, 7, 8, 9, 10, 11] ?_
        refine WP.seq ?_
        refine WP.regN prg (by kernel_rfl) ?_ -- region 12
        refine WN.op prg (by simp) (by simp; rfl) (by simp) ?_
        refine WN.op prg (by simp) (by simp; rfl) (by first | (simp; done) | (simp; omega)) ?_
        refine WN.op prg (by simp) (by simp; rfl) (by simp) ?_
        refine WN.op prg (by simp) (by simp; rfl) (by first | (simp; done) | (simp; omega)) ?_
        refine WN.op prg (by simp) (by simp; rfl) (by first | (simp; done) | (simp; omega)) ?_
        refine WN.op prg (by simp) (by simp; rfl) (by simp) ?_
        refine WN.op prg (by simp) (by simp; rfl) (by simp) ?_
        apply WN.join (t := 46) 4 42
        · first | rfl | (simp; rfl)
        · intro hg42
          refine WN.op prg (by simp) (by simp; rfl) (by simp) ?_
          refine WN.op prg (by simp) (by simp; rfl) (by simp) ?_
          refine WN.op prg (by simp) (by simp; rfl) (by simp) ?_
          refine WN.op prg (by simp) (by simp; rfl) (by simp) ?_
          exact WN.keep [46, 4, 6, 7, 8, 9, 10, 11] rfl
        · intro hg42
          refine WN.skip prg (by simp) ?_
          refine WN.skip prg (by simp) ?_
          refine WN.skip prg (by simp) ?_
          refine WN.op prg (by simp) (by simp; rfl) (by simp) ?_
          exact WN.keep [46, 4, 6, 7, 8, 9, 10, 11] rfl
        refine WN.keep [4, 6, 7, 8, 9, 10, 11, 46] ?_
        refine WP.cond (by first | rfl | (simp; rfl)) (fun hb => ?_) (fun hb => ?_)
        · try simp at hb
          refine WP.seq ?_
          refine WP.regN prg (by kernel_rfl) ?_ -- region 13
          refine WN.op prg (by simp) (by simp; rfl) (by simp) ?_
          refine WN.op prg (by simp) (by simp; rfl) (by simp) ?_
          refine WN.op prg (by simp) (by simp; rfl) (by simp) ?_
          refine WN.op prg (by simp) (by simp; rfl) (by first | (simp; done) | (simp; omega)) ?_
          refine WN.op prg (by simp) (by simp; rfl) (by first | (simp; done) | (simp; omega)) ?_
          refine WN.op prg (by simp) (by simp; rfl) (by simp) ?_
          refine WN.op prg (by simp) (by simp; rfl) (by first | (simp; done) | (simp; omega)) ?_
          refine WN.op prg (by simp) (by simp; rfl) (by simp) ?_
          refine WN.keep [4, 5] ?_
          refine WP.ret (DoneQ.ret [] (by simp; rfl) (by simp; rfl) ?_)
          have hs : single (ms[k]?.getD 0) = true := by rw [single_vals hk32.2.2]; have := hb.2; simp; omega
          have hc : hintCell (withG p.given g) ms k = true := by simp [hintCell, hb.1, hs]
          have hh : nextHint p g = some (last, k, onlyV (ms[k]?.getD 0)) := by rw [hrest, hintRest, show (withP p g).given = withG p.given g from rfl, hintAt_some (by omega) hno hc]
          rw [hh]
          exact ⟨by simp, by simp [hintV, single_only hk32.2.2 hs]⟩
        · try simp at hb
          refine WP.skip ?_
          refine WP.regN prg (by kernel_rfl) ?_ -- region 10
          refine WN.op prg (by simp) (by simp; rfl) (by simp) ?_
          refine WN.op prg (by simp) (by simp; rfl) (by simp) ?_
          refine WN.op prg (by simp) (by simp; rfl) (by simp) ?_
          refine WN.keep [4, 6, 7, 8, 9, 10] ?_
          have hs : hintCell (withG p.given g) ms k = false := by
            unfold hintCell
            rw [single_vals hk32.2.2]
            by_cases h0 : (withG p.given g)[k]?.getD 0 = 0
            · have := hb h0
              simp [h0]
              omega
            · simp [h0]
          refine ⟨by omega, fun j hj => ?_, by simp [wrap_id (n := (k : Int) + 1) (by omega) (by omega)]⟩
          by_cases h : j = k
          · subst h; exact hs
          · exact hno j (by omega)
      · try simp at hb
        refine WP.exit ?_
        refine WP.seq ?_
        refine WP.regN prg (by kernel_rfl) ?_ -- region 14
        refine WN.op prg (by simp) (by simp; rfl) (by first | (simp; done) | (simp; omega)) ?_
        refine WN.op prg (by simp) (by simp; rfl) (by simp) ?_
        refine WN.op prg (by simp) (by simp; rfl) (by simp) ?_
        have hno' : hintAt (withP p g).given ms = none := hintAt_none fun j hj => hno j (by omega)
        refine WN.call prg [] [] (by simp) rfl (by simp; rfl) (by simp) (CallsA.at (by simp [withP]) (by simp) (c_specNarrowBy (withP p g) ms t hxo hm ht1 (by omega))) ?_
        rintro _ _ ⟨rfl, rfl⟩
        refine ⟨_, by simp; rfl, ?_⟩
        refine WN.op prg (by simp) (by simp; rfl) (by simp) ?_
        refine WN.keep [4, 6, 7, 8, 9, 12] ?_
        refine WP.seq ?_
        refine WP.seq ?_
        refine WP.regN prg (by kernel_rfl) ?_ -- region 15
        refine WN.op prg (by simp) (by simp; rfl) (by simp) ?_
        refine WN.op prg (by simp) (by simp; rfl) (by simp) ?_
        have hns := (narrow_sub hxo (show masksOk ms (withP p g).size = true from hm) ht1 (by omega)).1
        refine WN.call prg [] [] (by simp) rfl (by simp; rfl) (by simp) (CallsA.at (by simp) (by simp) (c_l8Same (narrowBy (withP p g) ms t) ms (by omega) (by omega))) ?_
        rintro _ _ ⟨rfl, rfl⟩
        refine ⟨_, by simp; rfl, ?_⟩
        refine WN.keep [4, 6, 7, 8, 9, 12, 59] ?_
        refine WP.cond (by first | rfl | (simp; rfl)) (fun hb => ?_) (fun hb => ?_)
        · try simp at hb
          refine WP.seq ?_
          refine WP.regN prg (by kernel_rfl) ?_ -- region 16
          refine WN.op prg (by simp) (by simp; rfl) (by simp) ?_
          refine WN.op prg (by simp) (by simp; rfl) (by simp) ?_
          refine WN.op prg (by simp) (by simp; rfl) (by simp) ?_
          refine WN.keep [4, 6, 7, 8, 9] ?_
          refine WP.keep [4, 6, 7, 8, 9] ?_
          refine WP.exit ?_
          refine ⟨ms.sum.toNat * 8 + (5 - (t + 1)).toNat, by omega, ms, t + 1, last, hm, by omega, by omega, fun u h1 h2 => ?_, fun _ => hno', hrest, rfl, by simp [wrap_id (n := t + 1) (by omega) (by omega)]⟩
          by_cases e : u = t
          · subst e; exact hb
          · exact hskip u h1 (by omega)
        · try simp at hb
          refine WP.skip ?_
          refine WP.seq ?_
          refine WP.regN prg (by kernel_rfl) ?_ -- region 17
          refine WN.op prg (by simp) (by simp; rfl) (by simp) ?_
          refine WN.op prg (by simp) (by simp; rfl) (by simp) ?_
          refine WN.keep [4, 6, 7, 9] ?_
          refine WP.seq ?_
          refine WP.regN prg (by kernel_rfl) ?_ -- region 18
          refine WN.op prg (by simp) (by simp; rfl) (by simp) ?_
          refine WN.op prg (by simp) (by simp; rfl) (by simp) ?_
          refine WN.keep [4, 6, 7, 8] ?_
          refine WP.regN prg (by kernel_rfl) ?_ -- region 19
          refine WN.op prg (by simp) (by simp; rfl) (by simp) ?_
          refine WN.keep [4, 6, 7, 8, 9] ?_
          obtain ⟨hk1, hk2, hk3⟩ := narrow_sum hxo (show masksOk ms (withP p g).size = true from hm) ht1 (by omega) hb
          have hnr := nextRound_at hb 4 1 hskip ht1 (by omega)
          refine ⟨(narrowBy (withP p g) ms t).sum.toNat * 8 + (5 - 1 : Int).toNat, by omega, narrowBy (withP p g) ms t, 1, t, hk1, by omega, by omega, fun u h1 h2 => by omega, fun h => by omega, ?_, rfl, by simp⟩
          rw [hrest, hintRest, hno']
          simp only
          rw [hintFrom_some hxo hm hnr]
          rfl
    · try simp at hb
      refine WP.exit ?_
      refine WP.seq ?_
      refine WP.regN prg (by kernel_rfl) ?_ -- region 20
      refine WN.op prg (by simp) (by simp; rfl) (by simp) ?_
      refine WN.op prg (by simp) (by simp; rfl) (by first | (simp; done) | (simp; omega)) ?_
      refine WN.op prg (by simp) (by simp; rfl) (by simp) ?_
      refine WN.keep [4, 5] ?_
      refine WP.ret (DoneQ.ret [] (by simp; rfl) (by simp; rfl) ?_)
      have hnr := nextRound_all (p := withP p g) (ms := ms) 4 1 fun u h1 h2 => hskip u h1 (by omega)
      have hh : nextHint p g = none := by rw [hrest, hintRest, hseen (by omega), hintFrom_none hnr]
      rw [hh]
      exact ⟨by simp, by simp [hintV]⟩
end Go.Proofs.Ytaicenafkjbnoaa

