/- Contracts: techniques (reference). -/
import Derived.Test.YtaicenafkjbnoaaC12
import Derived.Test.YtaicenafkjbnoaaPlD
set_option linter.unusedVariables false
set_option linter.unusedSimpArgs false
namespace Go.Proofs.Ytaicenafkjbnoaa
open Go Go.AM
set_option maxRecDepth 100000

theorem c_l6Copy (l : List Int) (hl : l.length ≤ 1000000) : CallsA Try.prog 160 [.c (.dsl false (.ints .i64 (l)))] [] fun r ho => ho = [(9000, .arr 0 true (.ints .i64 l))] ∧ r = .v (.c (.osl 9000 0 0 (l.length))) := by
  refine CallsA.of (tv := tyOf Try.prog) (fn := Try.f160) prg.tv Try.func160 rfl rfl (by simp) ?_
  refine WP.seq ?_
  refine WP.regN prg (by kernel_rfl) ?_ -- region 0
  refine WN.op prg (by simp) (by simp; rfl) (by simp) ?_
  refine WN.keep [0] ?_
  refine WP.seq ?_
  refine WP.regN prg (by kernel_rfl) ?_ -- region 1
  refine WN.op prg (by simp) (by simp; rfl) (by simp) ?_
  refine WN.op prg (by simp) (by simp; rfl) (by simp) ?_
  refine WN.op prg (by simp) (by simp; rfl) (by first | (simp; done) | (simp; omega)) ?_
  refine WN.op prg (by simp) (by simp; rfl) (by simp) ?_
  refine WN.keep [2] ?_
  refine WP.ret (DoneQ.ret [24] (by simp; rfl) (by simp; rfl) ?_)
  exact ⟨by simp, by simp⟩
theorem c_l8Same (a b : List Int) (ha : a.length ≤ 1000000) (hb0 : b.length ≤ 140737488355328) : CallsA Try.prog 86 [.c (.dsl false (.ints .i64 (a))), .c (.dsl false (.ints .i64 (b)))] [] fun r ho => ho = [] ∧ r = .v (.c (.bool (decide (a = b)))) := by
  refine CallsA.of (tv := tyOf Try.prog) (fn := Try.f86) prg.tv Try.func86 rfl rfl (by simp) ?_
  refine WP.seq ?_
  refine WP.regN prg (by kernel_rfl) ?_ -- region 0
  refine WN.op prg (by simp) (by simp; rfl) (by simp) ?_
  refine WN.keep [0, 1] ?_
  refine WP.seq ?_
  refine WP.seq ?_
  refine WP.regN prg (by kernel_rfl) ?_ -- region 1
  refine WN.op prg (by simp) (by simp; rfl) (by simp) ?_
  refine WN.op prg (by simp) (by simp; rfl) (by simp) ?_
  refine WN.op prg (by simp) (by simp; rfl) (by simp) ?_
  refine WN.op prg (by simp) (by simp; rfl) (by simp) ?_
  refine WN.op prg (by simp) (by simp; rfl) (by simp) ?_
  refine WN.keep [0, 1, 10] ?_
  refine WP.cond (by first | rfl | (simp; rfl)) (fun hb => ?_) (fun hb => ?_)
  · try simp at hb
    refine WP.seq ?_
    refine WP.regN prg (by kernel_rfl) ?_ -- region 2
    refine WN.op prg (by simp) (by simp; rfl) (by simp) ?_
    refine WN.keep [4] ?_
    refine WP.ret (DoneQ.ret [] (by simp; rfl) (by simp; rfl) ?_)
    have : a ≠ b := fun e => hb (by rw [e])
    exact ⟨rfl, by simp [this]⟩
  · try simp at hb
    refine WP.skip ?_
    refine WP.seq ?_
    refine WP.seq ?_
    refine WP.regN prg (by kernel_rfl) ?_ -- region 3
    refine WN.op prg (by simp) (by simp; rfl) (by simp) ?_
    refine WN.keep [0, 1, 5] ?_
    refine WP.block ?_
    have hlen : a.length = b.length := by omega
    refine WP.loopU (a.length) (fun k => [(5, .v (.c (.int .i64 (k))))]) (fun k => []) (fun k => (∀ j, j < k → a[j]?.getD 0 = b[j]?.getD 0)) (fun k => by simp [putAll]; rfl) (fun k => by simp; rfl) (by simp) (by simp) (by simp) ?_
    intro k hk hall
    refine WP.seq ?_
    refine WP.seq ?_
    refine WP.regN prg (by kernel_rfl) ?_ -- region 4
    refine WN.op prg (by simp) (by simp; rfl) (by simp) ?_
    refine WN.op prg (by simp) (by simp; rfl) (by simp) ?_
    refine WN.op prg (by simp) (by simp; rfl) (by simp) ?_
    refine WN.op prg (by simp) (by simp; rfl) (by simp) ?_
    refine WN.keep [0, 1, 5, 14] ?_
    refine WP.cond (by first | rfl | (simp; rfl)) (fun hb => ?_) (fun hb => ?_)
    · try simp at hb
      refine WP.skip ?_
      refine WP.seq ?_
      refine WP.block ?_
      refine WP.seq ?_
      refine WP.reg prg (by kernel_rfl) ?_ -- region 6 DRAWS
      refine WS.d (by simp) (by simp; rfl) (by simp) (by kernel_rfl) ?_
      refine WS.d (by simp) (by simp; rfl) (by simp) (by kernel_rfl) ?_
      refine WS.d (by simp) (by simp; rfl) (by first | (simp; done) | (simp; omega)) (by kernel_rfl) ?_
      refine WS.d (by simp) (by simp; rfl) (by first | (simp; done) | (simp; omega)) (by kernel_rfl) ?_
      refine WS.d (by simp) (by simp; rfl) (by simp) (by kernel_rfl) ?_
      refine WS.d (by simp) (by simp; rfl) (by simp) (by kernel_rfl) ?_
      refine WS.d (by simp) (by simp; rfl) (by first | (simp; done) | (simp; omega)) (by kernel_rfl) ?_
      refine WS.d (by simp) (by simp; rfl) (by first | (simp; done) | (simp; omega)) (by kernel_rfl) ?_
      refine WS.d (by simp) (by simp; rfl) (by simp) (by kernel_rfl) ?_
      refine WS.keep [0, 1, 5, 25] ?_
      refine WP.cond (by first | rfl | (simp; rfl)) (fun hb => ?_) (fun hb => ?_)
      · try simp at hb
        refine WP.seq ?_
        refine WP.regN prg (by kernel_rfl) ?_ -- region 7
        refine WN.op prg (by simp) (by simp; rfl) (by simp) ?_
        refine WN.keep [4] ?_
        refine WP.ret (DoneQ.ret [] (by simp; rfl) (by simp; rfl) ?_)
        have : a ≠ b := fun e => hb (by rw [e])
        exact ⟨rfl, by simp [this]⟩
      · try simp at hb
        refine WP.skip ?_
        refine WP.regN prg (by kernel_rfl) ?_ -- region 5
        refine WN.op prg (by simp) (by simp; rfl) (by simp) ?_
        refine WN.op prg (by simp) (by simp; rfl) (by simp) ?_
        refine WN.op prg (by simp) (by simp; rfl) (by simp) ?_
        refine WN.keep [0, 1, 5] ?_
        refine ⟨by omega, fun j hj => ?_, by simp [wrap_id (n := (k : Int) + 1) (by omega) (by omega)]⟩
        by_cases h : j = k
        · subst h; exact hb
        · exact hall j (by omega)
    · try simp at hb
      refine WP.exit ?_
      refine WP.seq ?_
      refine WP.regN prg (by kernel_rfl) ?_ -- region 8
      refine WN.op prg (by simp) (by simp; rfl) (by simp) ?_
      refine WN.keep [4] ?_
      refine WP.ret (DoneQ.ret [] (by simp; rfl) (by simp; rfl) ?_)
      have : a = b := by
        apply List.ext_getElem hlen
        intro i h1 h2
        have := hall i (by omega)
        rw [List.getElem?_eq_getElem h1, List.getElem?_eq_getElem h2] at this
        simpa using this
      exact ⟨rfl, by simp [this]⟩
def withK (gv g : List Int) : Nat → List Int
  | 0 => gv
  | k + 1 => if 0 < g[k]?.getD 0 then (withK gv g k).set k (g[k]?.getD 0) else withK gv g k
@[simp] theorem withK_zero (gv g : List Int) : withK gv g 0 = gv := rfl
@[simp] theorem withK_len (gv g : List Int) : ∀ k, (withK gv g k).length = gv.length
  | 0 => rfl
  | k + 1 => by simp only [withK]; split <;> simp [withK_len gv g k]
theorem withK_get (gv g : List Int) : ∀ k i, (withK gv g k)[i]?.getD 0 = if i < k ∧ i < gv.length ∧ 0 < g[i]?.getD 0 then g[i]?.getD 0 else gv[i]?.getD 0
  | 0, i => by simp [withK]
  | k + 1, i => by
    simp only [withK]
    split
    · rename_i h
      rw [List.getElem?_set, withK_len]
      by_cases e : k = i
      · subst e
        rw [if_pos rfl]
        by_cases hl : k < gv.length
        · rw [if_pos hl, if_pos ⟨by omega, hl, h⟩]; rfl
        · rw [if_neg hl, if_neg (by omega), List.getElem?_eq_none (by omega)]
      · rw [if_neg e, withK_get gv g k i]
        by_cases h2 : i < k ∧ i < gv.length ∧ 0 < g[i]?.getD 0
        · rw [if_pos h2, if_pos (by omega)]
        · rw [if_neg h2, if_neg (by omega)]
    · rename_i h
      rw [withK_get gv g k i]
      by_cases e : k = i
      · subst e
        rw [if_neg (by omega), if_neg (by omega)]
      · by_cases h2 : i < k ∧ i < gv.length ∧ 0 < g[i]?.getD 0
        · rw [if_pos h2, if_pos (by omega)]
        · rw [if_neg h2, if_neg (by omega)]
theorem withK_all (gv g : List Int) : withK gv g gv.length = withG gv g := by
  apply List.ext_getElem
  · simp [withG]
  · intro i h1 h2
    have h := withK_get gv g gv.length i
    rw [List.getElem?_eq_getElem h1] at h
    have hi : i < gv.length := by simpa using h1
    simp only [Option.getD_some] at h
    rw [h]
    simp [withG, hi]
theorem c_l23With (p : Puzzle) (g : List Int) (hp : p.given.length ≤ 1000000) (hl : g.length = p.given.length) : CallsA Try.prog 82 [p.v false, .c (.dsl false (.ints .i64 (g)))] [] fun x ho => ho = [] ∧ x = .v (.agg [.int .i64 p.size, .dsl true (.ints .i64 (withG p.given g)), .dsl false (rulesD p.rules)]) := by
  unfold Puzzle.v
  refine CallsA.of (tv := tyOf Try.prog) (fn := Try.f82) prg.tv Try.func82 rfl rfl (by simp) ?_
  refine WP.seq ?_
  refine WP.regN prg (by kernel_rfl) ?_ -- region 0
  refine WN.op prg (by simp) (by simp; rfl) (by simp) ?_
  refine WN.op prg (by simp) (by simp; rfl) (by simp) ?_
  refine WN.keep [1, 2, 4] ?_
  refine WP.seq ?_
  refine WP.regN prg (by kernel_rfl) ?_ -- region 1
  refine WN.op prg (by simp) (by simp; rfl) (by simp) ?_
  refine WN.op prg (by simp) (by simp; rfl) (by simp) ?_
  refine WN.op prg (by simp) (by simp; rfl) (by first | (simp; done) | (simp; omega)) ?_
  refine WN.op prg (by simp) (by simp; rfl) (by first | (simp; done) | (simp; omega)) ?_
  refine WN.op prg (by simp) (by simp; rfl) (by simp) ?_
  refine WN.keep [1, 2, 4, 5] ?_
  refine WP.seq ?_
  refine WP.seq ?_
  refine WP.regN prg (by kernel_rfl) ?_ -- region 2
  refine WN.op prg (by simp) (by simp; rfl) (by simp) ?_
  refine WN.keep [1, 2, 4, 5, 6] ?_
  refine WP.block ?_
  refine WP.loopU (p.given.length) (fun k => [(6, .v (.c (.int .i64 (k))))]) (fun k => [(56, .arr 1 true (.ints .i64 (withK p.given g k)))]) (fun k => True) (fun k => by simp [putAll]; rfl) (fun k => by simp; rfl) (by simp) (by simp) (by simp) ?_
  intro k hk _
  refine WP.seq ?_
  refine WP.seq ?_
  refine WP.regN prg (by kernel_rfl) ?_ -- region 3
  refine WN.op prg (by simp) (by simp; rfl) (by simp) ?_
  refine WN.op prg (by simp) (by simp; rfl) (by simp) ?_
  refine WN.op prg (by simp) (by simp; rfl) (by simp) ?_
  refine WN.op prg (by simp) (by simp; rfl) (by simp) ?_
  refine WN.keep [1, 2, 4, 5, 6, 14] ?_
  refine WP.cond (by first | rfl | (simp; rfl)) (fun hb => ?_) (fun hb => ?_)
  · try simp at hb
    refine WP.skip ?_
    refine WP.seq ?_
    refine WP.block ?_
    refine WP.seq ?_
    refine WP.regN prg (by kernel_rfl) ?_ -- region 5
    refine WN.op prg (by simp) (by simp; rfl) (by simp) ?_
    refine WN.op prg (by simp) (by simp; rfl) (by simp) ?_
    refine WN.op prg (by simp) (by simp; rfl) (by first | (simp; done) | (simp; omega)) ?_
    refine WN.op prg (by simp) (by simp; rfl) (by first | (simp; done) | (simp; omega)) ?_
    refine WN.op prg (by simp) (by simp; rfl) (by simp) ?_
    refine WN.keep [1, 2, 4, 5, 6, 21] ?_
    refine WP.cond (by first | rfl | (simp; rfl)) (fun hb => ?_) (fun hb => ?_)
    · try simp at hb
      refine WP.regN prg (by kernel_rfl) ?_ -- region 6
      refine WN.op prg (by simp) (by simp; rfl) (by simp) ?_
      refine WN.op prg (by simp) (by simp; rfl) (by simp) ?_
      refine WN.op prg (by simp) (by simp; rfl) (by simp) ?_
      refine WN.op prg (by simp) (by simp; rfl) (by simp) ?_
      refine WN.op prg (by simp) (by simp; rfl) (by first | (simp; done) | (simp; omega)) ?_
      refine WN.op prg (by simp) (by simp; rfl) (by first | (simp; done) | (simp; omega)) ?_
      refine WN.op prg (by simp) (by simp; rfl) (by first | (simp; done) | (simp; omega)) ?_
      refine WN.op prg (by simp) (by simp; rfl) (by first | (simp; done) | (simp; omega)) ?_
      refine WN.keep [1, 2, 4, 5, 6] ?_
      refine WP.regN prg (by kernel_rfl) ?_ -- region 4
      skip
      refine WN.op prg (by simp) (by simp; rfl) (by simp) ?_
      refine WN.op prg (by simp) (by simp; rfl) (by simp) ?_
      refine WN.op prg (by simp) (by simp; rfl) (by simp) ?_
      refine WN.keep [1, 2, 4, 5, 6] ?_
      exact ⟨by omega, trivial, by simp [withK, hb, wrap_id (n := (k : Int) + 1) (by omega) (by omega)]⟩
    · try simp at hb
      refine WP.skip ?_
      refine WP.regN prg (by kernel_rfl) ?_ -- region 4
      skip
      refine WN.op prg (by simp) (by simp; rfl) (by simp) ?_
      refine WN.op prg (by simp) (by simp; rfl) (by simp) ?_
      refine WN.op prg (by simp) (by simp; rfl) (by simp) ?_
      refine WN.keep [1, 2, 4, 5, 6] ?_
      have hn : ¬ 0 < g[k]?.getD 0 := by omega
      exact ⟨by omega, trivial, by simp [withK, hn, wrap_id (n := (k : Int) + 1) (by omega) (by omega)]⟩
  · try simp at hb
    refine WP.exit ?_
    refine WP.seq ?_
    refine WP.regN prg (by kernel_rfl) ?_ -- region 7
    refine WN.op prg (by simp) (by simp; rfl) (by simp) ?_
    refine WN.op prg (by simp) (by simp; rfl) (by first | (simp; done) | (simp; omega)) ?_
    refine WN.op prg (by simp) (by simp; rfl) (by simp) ?_
    refine WN.op prg (by simp) (by simp; rfl) (by simp) ?_
    refine WN.op prg (by simp) (by simp; rfl) (by first | (simp; done) | (simp; omega)) ?_
    refine WN.op prg (by simp) (by simp; rfl) (by simp) ?_
    refine WN.op prg (by simp) (by simp; rfl) (by first | (simp; done) | (simp; omega)) ?_
    refine WN.keep [4] ?_
    refine WP.ret (DoneQ.ret [] (by simp; rfl) (by simp; rfl) ?_)
    have hkk : k = p.given.length := by omega
    have hw : (withG p.given g).length = p.given.length := by simp [withG]
    exact ⟨rfl, by simp [hkk, withK_all, List.take_of_length_le, hw]⟩
theorem c_specStartMasks (p : Puzzle) (hp : puzzleOk p = true) : CallsA Try.prog 83 [p.v false] [] fun r ho => ho = [] ∧ r = .v (.c (.dsl true (.ints .i64 (startMasks p)))) := by
  obtain ⟨hpg, hp20, hpr⟩ := puzzleOk_iff.1 hp
  have hgl := grid_len hpg
  obtain ⟨h2, h4, hll⟩ := gridOk_size hpg
  unfold Puzzle.v rulesD
  refine CallsA.of (tv := tyOf Try.prog) (fn := Try.f83) prg.tv Try.func83 rfl rfl (by simp) ?_
  refine WP.seq ?_
  refine WP.regN prg (by kernel_rfl) ?_ -- region 0
  refine WN.op prg (by simp) (by simp; rfl) (by simp) ?_
  refine WN.op prg (by simp) (by simp; rfl) (by simp) ?_
  refine WN.keep [1] ?_
  refine WP.seq ?_
  refine WP.regN prg (by kernel_rfl) ?_ -- region 1
  refine WN.op prg (by simp) (by simp; rfl) (by simp) ?_
  refine WN.op prg (by simp) (by simp; rfl) (by simp) ?_
  refine WN.keep [1, 3] ?_
  refine WP.seq ?_
  refine WP.seq ?_
  refine WP.regN prg (by kernel_rfl) ?_ -- region 2
  refine WN.op prg (by simp) (by simp; rfl) (by simp) ?_
  refine WN.keep [1, 3, 4] ?_
  refine WP.block ?_
  refine WP.loopU (p.given.length) (fun k => [(3, .v (.c (.osl 40 k 0 (k)))), (4, .v (.c (.int .i64 (k))))]) (fun k => [(40, .arr k true (.ints .i64 ((gridMasks p.given p.size).take k)))]) (fun k => True) (fun k => by simp [putAll]; rfl) (fun k => by simp; rfl) (by simp) (by simp) (by simp) ?_
  intro k hk _
  have hgv := gridOk_get hpg k
  have hgm : (gridMasks p.given p.size).length = p.given.length := by simp [gridMasks]
  have hw1 : IntKind.i64.wrap (p.size + 1) = p.size + 1 := wrap_id (by omega) (by omega)
  refine WP.seq ?_
  refine WP.seq ?_
  refine WP.regN prg (by kernel_rfl) ?_ -- region 3
  skip
  refine WN.op prg (by simp) (by simp; rfl) (by simp) ?_
  refine WN.op prg (by simp) (by simp; rfl) (by simp) ?_
  refine WN.op prg (by simp) (by simp; rfl) (by first | (simp; done) | (simp; omega)) ?_
  refine WN.op prg (by simp) (by simp; rfl) (by simp) ?_
  refine WN.op prg (by simp) (by simp; rfl) (by simp) ?_
  refine WN.op prg (by simp) (by simp; rfl) (by simp) ?_
  apply WN.join (t := 14) 3 11
  · first | rfl | (simp; rfl)
  · intro hg11
    refine WN.op prg (by simp) (by simp; rfl) (by first | (simp; done) | (simp; omega)) ?_
    refine WN.call prg [] [] (by simp) rfl (by simp; rfl) (by simp) (CallsA.at (by simp) (by simp) (c_specPuzzleValid_ok p hp)) ?_
    rintro _ _ ⟨rfl, rfl⟩
    refine ⟨_, by simp; rfl, ?_⟩
    refine WN.op prg (by simp) (by simp; rfl) (by simp) ?_
    exact WN.keep [14, 1, 3, 4] rfl
  · intro hg11
    refine WN.skip prg (by simp) ?_
    refine WN.skip prg (by simp) ?_
    refine WN.op prg (by simp) (by simp; rfl) (by simp) ?_
    exact WN.keep [14, 1, 3, 4] rfl
  refine WN.keep [1, 3, 4, 14] ?_
  refine WP.cond (by first | rfl | (simp; rfl)) (fun hb => ?_) (fun hb => ?_)
  · try simp at hb
    refine WP.skip ?_
    refine WP.seq ?_
    refine WP.block ?_
    refine WP.seq ?_
    refine WP.regN prg (by kernel_rfl) ?_ -- region 5
    refine WN.op prg (by simp) (by simp; rfl) (by simp) ?_
    refine WN.op prg (by simp) (by simp; rfl) (by first | (simp; done) | (simp; omega)) ?_
    refine WN.op prg (by simp) (by simp; rfl) (by simp) ?_
    refine WN.op prg (by simp) (by simp; rfl) (by first | (simp; done) | (simp; omega)) ?_
    refine WN.op prg (by simp) (by simp; rfl) (by first | (simp; done) | (simp; omega)) ?_
    refine WN.op prg (by simp) (by simp; rfl) (by simp) ?_
    refine WN.keep [1, 3, 4, 22] ?_
    refine WP.cond (by first | rfl | (simp; rfl)) (fun hb => ?_) (fun hb => ?_)
    · try simp at hb
      refine WP.regN prg (by kernel_rfl) ?_ -- region 6
      refine WN.op prg (by simp) (by simp; rfl) (by simp) ?_
      refine WN.op prg (by simp) (by simp; rfl) (by simp) ?_
      refine WN.op prg (by simp) (by simp; rfl) (by first | (simp; done) | (simp; omega)) ?_
      refine WN.op prg (by simp) (by simp; rfl) (by simp) ?_
      refine WN.op prg (by simp) (by simp; rfl) (by first | (simp; done) | (simp; omega)) ?_
      refine WN.op prg (by simp) (by simp; rfl) (by first | (simp; done) | (simp; omega)) ?_
      refine WN.op prg (by simp) (by simp; rfl) (by first | (simp; done) | (simp; omega)) ?_
      refine WN.op prg (by simp) (by simp; rfl) (by simp) ?_
      refine WN.op prg (by simp) (by simp; rfl) (by first | (simp; done) | (simp; omega)) ?_
      refine WN.op prg (by simp) (by simp; rfl) (by simp) ?_
      refine WN.keep [1, 3, 4] ?_
      refine WP.regN prg (by kernel_rfl) ?_ -- region 4
      refine WN.tidy [1, 3, 4] [8, 40] (by simp; rfl) ?_
      refine WN.op prg (by simp) (by simp; rfl) (by simp) ?_
      refine WN.op prg (by simp) (by simp; rfl) (by simp) ?_
      refine WN.op prg (by simp) (by simp; rfl) (by simp) ?_
      refine WN.keep [1, 3, 4] ?_
      have e1 := shl_one' hgv.1 (by omega)
      have hkl : k < p.given.length := by omega
      have hpos : 0 < p.given[k]?.getD 0 := hb
      have hx : (gridMasks p.given p.size)[k]? = some (one (p.given[k]?.getD 0)) := by
        rw [List.getElem?_eq_getElem hkl] at hpos
        simp at hpos
        simp [gridMasks, List.getElem?_eq_getElem hkl, cellMask, hpos]
      exact ⟨hkl, trivial, by simp [e1, take_snoc hx, wrap_id (n := (k : Int) + 1) (by omega) (by omega)]⟩
    · try simp at hb
      refine WP.regN prg (by kernel_rfl) ?_ -- region 7
      refine WN.op prg (by simp) (by simp; rfl) (by simp) ?_
      refine WN.op prg (by simp) (by simp; rfl) (by simp) ?_
      refine WN.op prg (by simp) (by simp; rfl) (by first | (simp; done) | (simp; omega)) ?_
      refine WN.op prg (by simp) (by simp; rfl) (by simp) ?_
      refine WN.op prg (by simp) (by simp; rfl) (by first | (simp; done) | (simp; omega)) ?_
      refine WN.op prg (by simp) (by simp; rfl) (by simp) ?_
      refine WN.op prg (by simp) (by simp; rfl) (by simp) ?_
      refine WN.op prg (by simp) (by simp; rfl) (by first | (simp; done) | (simp; omega)) ?_
      refine WN.op prg (by simp) (by simp; rfl) (by simp) ?_
      refine WN.keep [1, 3, 4] ?_
      refine WP.regN prg (by kernel_rfl) ?_ -- region 4
      refine WN.tidy [1, 3, 4] [8, 40] (by simp; rfl) ?_
      refine WN.op prg (by simp) (by simp; rfl) (by simp) ?_
      refine WN.op prg (by simp) (by simp; rfl) (by simp) ?_
      refine WN.op prg (by simp) (by simp; rfl) (by simp) ?_
      refine WN.keep [1, 3, 4] ?_
      have e1 := allV_w (n := p.size) (by omega) (by omega)
      have hkl : k < p.given.length := by omega
      have hpos : ¬ 0 < p.given[k]?.getD 0 := by omega
      have hx : (gridMasks p.given p.size)[k]? = some (allV p.size) := by
        rw [List.getElem?_eq_getElem hkl] at hpos
        simp at hpos
        simp [gridMasks, List.getElem?_eq_getElem hkl, cellMask]
        omega
      exact ⟨hkl, trivial, by simp [e1, take_snoc hx, wrap_id (n := (k : Int) + 1) (by omega) (by omega)]⟩
  · try simp at hb
    refine WP.exit ?_
    refine WP.seq ?_
    refine WP.regN prg (by kernel_rfl) ?_ -- region 8
    refine WN.op prg (by simp) (by simp; rfl) (by simp) ?_
    refine WN.op prg (by simp) (by simp; rfl) (by simp) ?_
    refine WN.keep [2] ?_
    refine WP.ret (DoneQ.ret [] (by simp; rfl) (by simp; rfl) ?_)
    have hkk : k = p.given.length := by omega
    exact ⟨rfl, by simp [startMasks, hp, hkk, List.take_of_length_le, hgm]⟩
theorem masks32 {ms : List Int} {n : Int} (hm : masksOk ms n = true) {k : Nat} (hk : k < ms.length) : 0 ≤ ms[k]?.getD 0 ∧ ms[k]?.getD 0 < 32 ∧ maskOk 4 (ms[k]?.getD 0) = true := by
  obtain ⟨h2, h4, hl, hall⟩ := masksOk_iff.1 hm
  have h1 := maskOk4 h2 h4 (masksOk_get hm hk)
  obtain ⟨g0, g1, g2⟩ := maskOk_iff.1 h1
  rw [allV4] at g1
  exact ⟨g0, by omega, h1⟩
/-- Masks that grow less: each below 32. -/
def Out (N : Nat) (out : List Int) : Prop := FOk N out
theorem FOk.set {n : Nat} {f : List Int} (h : FOk n f) (k : Nat) {v : Int} (h0 : 0 ≤ v) (h1 : v < 32) : FOk n (f.set k v) := ⟨by simp [h.1], fun x hx => by
  rcases List.mem_or_eq_of_mem_set hx with hx | rfl
  · exact h.2 x hx
  · exact ⟨h0, h1⟩⟩
theorem fok_masks {ms : List Int} {n : Int} (hm : masksOk ms n = true) : FOk ms.length ms := ⟨rfl, fun x hx => by
  obtain ⟨k, hk⟩ := List.getElem?_of_mem hx
  have := masks32 hm (List.getElem?_eq_some_iff.1 hk).1
  rw [hk] at this
  exact ⟨this.1, this.2.1⟩⟩
theorem singJ_ok {ms out : List Int} {n : Int} {k : Nat} {N : Nat} (h : FOk N out) (j : Nat) : FOk N (singJ ms n k out j) := by
  unfold singJ
  split
  · have h1 := h.get j
    have h2 := subI_le (b := ms[k]?.getD 0) h1.1
    exact h.set j h2.1 (by omega)
  · exact h
theorem foldl_ok {α β : Type} {P : β → Prop} {f : β → α → β} (hf : ∀ b a, P b → P (f b a)) : ∀ (l : List α) (b : β), P b → P (l.foldl f b)
  | [], b, h => h
  | a :: l, b, h => foldl_ok hf l (f b a) (hf b a h)
theorem sing1_ok {ms out : List Int} {n : Int} {N : Nat} (k : Nat) (h : FOk N out) : FOk N (sing1 ms n out k) := by
  unfold sing1
  split
  · exact foldl_ok (P := FOk N) (fun b a hb => singJ_ok hb a) _ _ h
  · exact h
theorem single_vals {m : Int} (h : maskOk 4 m = true) : single m = decide ((maskVals m).length = 1) := by
  obtain ⟨h0, h1, h2⟩ := maskOk_iff.1 h
  rw [allV4] at h1
  exact fin_all (p := fun m => m % 2 = 0 → single m = decide ((maskVals m).length = 1)) (N := 31) (by decide +kernel) h0 (by omega) h2
theorem quo_n {n : Int} (h2 : 2 ≤ n) (h4 : n ≤ 4) {k : Nat} (hk : k < 16) : IntKind.i64.wrap (Int.tdiv k n) = (k : Int) / n ∧ Int.tmod k n = (k : Int) % n := by
  have : n = 2 ∨ n = 3 ∨ n = 4 := by omega
  rcases this with rfl | rfl | rfl <;> (rw [Int.tdiv_eq_ediv_of_nonneg (by omega), Int.tmod_eq_emod_of_nonneg (by omega)]; exact ⟨wrap_id (by omega) (by omega), rfl⟩)
theorem divn {n : Int} (h2 : 2 ≤ n) {k : Nat} (hk : k < 16) : -9223372036854775808 ≤ (k : Int) / n ∧ (k : Int) / n < 9223372036854775808 := by
  have h1 : 0 ≤ (k : Int) / n := Int.ediv_nonneg (by omega) (by omega)
  have h3 : (k : Int) / n ≤ k := Int.ediv_le_self n (by omega)
  omega
theorem modn {j k : Nat} {n : Int} (h : (j : Int).tmod n = (k : Int).tmod n) : (j : Int) % n = (k : Int) % n := by
  rwa [Int.tmod_eq_emod_of_nonneg (by omega), Int.tmod_eq_emod_of_nonneg (by omega)] at h
theorem modn' {j k : Nat} {n : Int} (h : (j : Int) % n = (k : Int) % n) : (j : Int).tmod n = (k : Int).tmod n := by
  rwa [Int.tmod_eq_emod_of_nonneg (by omega), Int.tmod_eq_emod_of_nonneg (by omega)]
theorem foldl_range {β : Type} (f : β → Nat → β) (b : β) (k : Nat) : (List.range (k + 1)).foldl f b = f ((List.range k).foldl f b) k := by rw [List.range_succ, List.foldl_append]; rfl
theorem c_specNarrow1 (ms : List Int) (n : Int) (hm : masksOk ms n = true) : CallsA Try.prog 126 [.c (.dsl false (.ints .i64 (ms))), .c (.int .i64 (n))] [] fun r ho => ho = [] ∧ r = .v (.c (.dsl true (.ints .i64 (narrow1 ms n)))) := by
  have hml := masks_len hm
  obtain ⟨h2, h4, hll, hall⟩ := masksOk_iff.1 hm
  refine CallsA.of (tv := tyOf Try.prog) (fn := Try.f126) prg.tv Try.func126 rfl rfl (by simp) ?_
  refine WP.seq ?_
  refine WP.regN prg (by kernel_rfl) ?_ -- region 0
  refine WN.op prg (by simp) (by simp; rfl) (by simp) ?_
  refine WN.keep [0, 1] ?_
  refine WP.seq ?_
  refine WP.seq ?_
  refine WP.regN prg (by kernel_rfl) ?_ -- region 1
  refine WN.op prg (by simp) (by simp; rfl) (by simp) ?_
  refine WN.op prg (by simp) (by simp; rfl) (by simp) ?_
  refine WN.call prg [] [] (by simp) rfl (by simp; rfl) (by simp) (CallsA.at (by simp) (by simp) (c_specMasksValid ms n hm)) ?_
  rintro _ _ ⟨rfl, rfl⟩
  refine ⟨_, by simp; rfl, ?_⟩
  refine WN.op prg (by simp) (by simp; rfl) (by simp) ?_
  refine WN.keep [0, 1, 11] ?_
  refine WP.cond (by first | rfl | (simp; rfl)) (fun hb => ?_) (fun hb => ?_)
  · exact absurd hb (by simp)
  · try simp at hb
    refine WP.skip ?_
    refine WP.seq ?_
    refine WP.regN prg (by kernel_rfl) ?_ -- region 3
    refine WN.op prg (by simp) (by simp; rfl) (by simp) ?_
    refine WN.call prg [] [] (by simp) rfl (by simp; rfl) (by simp) (CallsA.at (by simp) (by simp) (c_l6Copy ms (by omega))) ?_
    rintro _ _ ⟨rfl, rfl⟩
    refine ⟨_, by simp; rfl, ?_⟩
    refine WN.op prg (by simp) (by simp; rfl) (by simp) ?_
    refine WN.keep [0, 1, 5] ?_
    refine WP.seq ?_
    refine WP.seq ?_
    refine WP.regN prg (by kernel_rfl) ?_ -- region 4
    refine WN.op prg (by simp) (by simp; rfl) (by simp) ?_
    refine WN.keep [0, 1, 5, 6] ?_
    refine WP.block ?_
    refine WP.loopU (ms.length) (fun k => [(6, .v (.c (.int .i64 (k))))]) (fun k => [(112, .arr 0 true (.ints .i64 ((List.range k).foldl (sing1 ms n) ms)))]) (fun k => True) (fun k => by simp [putAll]; rfl) (fun k => by simp; rfl) (by simp) (by simp) (by simp) ?_
    intro k hk _
    have hok : FOk ms.length ((List.range k).foldl (sing1 ms n) ms) := foldl_ok (P := FOk ms.length) (fun b a hb => sing1_ok a hb) _ _ (fok_masks hm)
    refine WP.seq ?_
    refine WP.seq ?_
    refine WP.regN prg (by kernel_rfl) ?_ -- region 5
    refine WN.op prg (by simp) (by simp; rfl) (by simp) ?_
    refine WN.op prg (by simp) (by simp; rfl) (by simp) ?_
    refine WN.op prg (by simp) (by simp; rfl) (by simp) ?_
    refine WN.op prg (by simp) (by simp; rfl) (by simp) ?_
    refine WN.keep [0, 1, 5, 6, 18] ?_
    refine WP.cond (by first | rfl | (simp; rfl)) (fun hb => ?_) (fun hb => ?_)
    · try simp at hb
      refine WP.skip ?_
      refine WP.seq ?_
      refine WP.block ?_
      refine WP.seq ?_
      refine WP.seq ?_
      refine WP.regN prg (by kernel_rfl) ?_ -- region 7
      refine WN.op prg (by simp) (by simp; rfl) (by simp) ?_
      refine WN.op prg (by simp) (by simp; rfl) (by simp) ?_
      refine WN.op prg (by simp) (by simp; rfl) (by first | (simp; done) | (simp; omega)) ?_
      refine WN.op prg (by simp) (by simp; rfl) (by first | (simp; done) | (simp; omega)) ?_
      obtain ⟨m0, m1, m2⟩ := masks32 hm (show k < ms.length by omega)
      have hsv := single_vals m2
      refine WN.call prg [] [] (by simp) rfl (by simp; rfl) (by simp) (CallsA.at (by simp) (by simp) (c_specMaskValues (ms[k]?.getD 0))) ?_
      rintro _ _ ⟨rfl, rfl⟩
      refine ⟨_, by simp; rfl, ?_⟩
      refine WN.op prg (by simp) (by simp; rfl) (by simp) ?_
      refine WN.op prg (by simp) (by simp; rfl) (by simp) ?_
      refine WN.keep [0, 1, 5, 6, 27] ?_
      refine WP.cond (by first | rfl | (simp; rfl)) (fun hb => ?_) (fun hb => ?_)
      · try simp at hb
        refine WP.exit ?_
        refine WP.regN prg (by kernel_rfl) ?_ -- region 6
        refine WN.op prg (by simp) (by simp; rfl) (by simp) ?_
        refine WN.op prg (by simp) (by simp; rfl) (by simp) ?_
        refine WN.op prg (by simp) (by simp; rfl) (by simp) ?_
        refine WN.keep [0, 1, 5, 6] ?_
        rename_i hkl
        have hs : single (ms[k]?.getD 0) = false := by rw [hsv]; simp; omega
        exact ⟨by omega, trivial, by simp [foldl_range, sing1, hs, wrap_id (n := (k : Int) + 1) (by omega) (by omega)]⟩
      · try simp at hb
        refine WP.skip ?_
        refine WP.seq ?_
        refine WP.regN prg (by kernel_rfl) ?_ -- region 8
        refine WN.op prg (by simp) (by simp; rfl) (by simp) ?_
        refine WN.keep [0, 1, 5, 6, 7] ?_
        refine WP.block ?_
        have hkl : k < ms.length := by omega
        have hs : single (ms[k]?.getD 0) = true := by rw [hsv]; simp; omega
        refine WP.loopU (ms.length) (fun j => [(7, .v (.c (.int .i64 (j))))]) (fun j => [(112, .arr 0 true (.ints .i64 ((List.range j).foldl (singJ ms n k) ((List.range k).foldl (sing1 ms n) ms))))]) (fun j => True) (fun k => by simp [putAll]; rfl) (fun k => by simp; rfl) (by simp) (by simp) (by simp) ?_
        intro j hk _
        have hoj : FOk ms.length ((List.range j).foldl (singJ ms n k) ((List.range k).foldl (sing1 ms n) ms)) := foldl_ok (P := FOk ms.length) (fun b a hb => singJ_ok hb a) _ _ hok
        have hoj1 := hoj.1
        have hq1 := fun h : j < 16 => quo_n h2 h4 h
        have hq2 := quo_n h2 h4 (show k < 16 by omega)
        refine WP.seq ?_
        refine WP.seq ?_
        refine WP.regN prg (by kernel_rfl) ?_ -- region 9
        refine WN.op prg (by simp) (by simp; rfl) (by simp) ?_
        refine WN.op prg (by simp) (by simp; rfl) (by simp) ?_
        refine WN.op prg (by simp) (by simp; rfl) (by simp) ?_
        refine WN.op prg (by simp) (by simp; rfl) (by simp) ?_
        refine WN.keep [0, 1, 5, 6, 7, 31] ?_
        refine WP.cond (by first | rfl | (simp; rfl)) (fun hb => ?_) (fun hb => ?_)
        · try simp at hb
          refine WP.skip ?_
          refine WP.seq ?_
          refine WP.block ?_
          refine WP.seq ?_
          refine WP.reg prg (by kernel_rfl) ?_ -- region 11 DRAWS
          refine WS.d (by simp) (by simp; rfl) (by simp) (by kernel_rfl) ?_
          refine WS.d (by simp) (by simp; rfl) (by simp) (by kernel_rfl) ?_
          refine WS.d (by simp) (by simp; rfl) (by simp) (by kernel_rfl) ?_
          refine WS.d (by simp) (by simp; rfl) (by simp) (by kernel_rfl) ?_
          refine WS.cases 37 (by simp; rfl) (fun hg37 => ?_) (fun hg37 => ?_)
          · refine WS.d (by simp) (by simp; rfl) (by simp) (by kernel_rfl) ?_
            refine WS.d (by simp) (by simp; rfl) (by simp) (by kernel_rfl) ?_
            refine WS.d (by simp) (by simp; rfl) (by first | (simp; done) | (simp; omega)) (by kernel_rfl) ?_
            refine WS.d (by simp) (by simp; rfl) (by simp) (by kernel_rfl) ?_
            refine WS.d (by simp) (by simp; rfl) (by simp) (by kernel_rfl) ?_
            refine WS.d (by simp) (by simp; rfl) (by first | (simp; done) | (simp; omega)) (by kernel_rfl) ?_
            refine WS.d (by simp) (by simp; rfl) (by simp) (by kernel_rfl) ?_
            refine WS.d (by simp) (by simp; rfl) (by simp) (by kernel_rfl) ?_
            refine WS.cases 45 (by simp; rfl) (fun hg45 => ?_) (fun hg45 => ?_)
            · refine WS.skipD (by simp) (by kernel_rfl) ?_
              refine WS.skipD (by simp) (by kernel_rfl) ?_
              refine WS.skipD (by simp) (by kernel_rfl) ?_
              refine WS.skipD (by simp) (by kernel_rfl) ?_
              refine WS.skipD (by simp) (by kernel_rfl) ?_
              refine WS.skipD (by simp) (by kernel_rfl) ?_
              refine WS.skipD (by simp) (by kernel_rfl) ?_
              refine WS.d (by simp) (by simp; rfl) (by simp) (by kernel_rfl) ?_
              refine WS.d (by simp) (by simp; rfl) (by simp) (by kernel_rfl) ?_
              refine WS.keep [0, 1, 5, 6, 7, 54] ?_
              refine WP.cond (by first | rfl | (simp; rfl)) (fun hb => ?_) (fun hb => absurd hb (by simp))
              refine WP.reg prg (by kernel_rfl) ?_ -- region 12 DRAWS
              refine WS.d (by simp) (by simp; rfl) (by simp) (by kernel_rfl) ?_
              refine WS.d (by simp) (by simp; rfl) (by simp) (by kernel_rfl) ?_
              refine WS.d (by simp) (by simp; rfl) (by simp) (by kernel_rfl) ?_
              refine WS.d (by simp) (by simp; rfl) (by simp) (by kernel_rfl) ?_
              refine WS.d (by simp) (by simp; rfl) (by first | (simp; done) | (simp; omega)) (by kernel_rfl) ?_
              refine WS.d (by simp) (by simp; rfl) (by first | (simp; done) | (simp; omega)) (by kernel_rfl) ?_
              refine WS.d (by simp) (by simp; rfl) (by simp) (by kernel_rfl) ?_
              refine WS.d (by simp) (by simp; rfl) (by simp) (by kernel_rfl) ?_
              refine WS.d (by simp) (by simp; rfl) (by first | (simp; done) | (simp; omega)) (by kernel_rfl) ?_
              refine WS.d (by simp) (by simp; rfl) (by first | (simp; done) | (simp; omega)) (by kernel_rfl) ?_
              refine WS.d (by simp) (by simp; rfl) (by simp) (by kernel_rfl) ?_
              refine WS.d (by simp) (by simp; rfl) (by first | (simp; done) | (simp; omega)) (by kernel_rfl) ?_
              refine WS.d (by simp) (by simp; rfl) (by first | (simp; done) | (simp; omega)) (by kernel_rfl) ?_
              refine WS.keep [0, 1, 5, 6, 7] ?_
              refine WP.regN prg (by kernel_rfl) ?_ -- region 10
              refine WN.op prg (by simp) (by simp; rfl) (by simp) ?_
              refine WN.op prg (by simp) (by simp; rfl) (by simp) ?_
              refine WN.op prg (by simp) (by simp; rfl) (by simp) ?_
              refine WN.keep [0, 1, 5, 6, 7] ?_
              have hjl : j < ms.length := by omega
              have hc : j ≠ k ∧ sameLine n j k = true := by
                simp at hg37 hg45
                rw [wrap_id (n := (j : Int) / n) (divn h2 (by omega)).1 (divn h2 (by omega)).2, wrap_id (n := (k : Int) / n) (divn h2 (by omega)).1 (divn h2 (by omega)).2] at hg45
                exact ⟨by omega, by simp [sameLine, hg45]⟩
              exact ⟨hjl, trivial, by simp [foldl_range, singJ, hc, bits_andNot (hoj.get j).1 (hoj.get j).2 m0 m1, wrap_id (n := (j : Int) + 1) (by omega) (by omega)]⟩
            · refine WS.d (by simp) (by simp; rfl) (by simp) (by kernel_rfl) ?_
              refine WS.d (by simp) (by simp; rfl) (by simp) (by kernel_rfl) ?_
              refine WS.d (by simp) (by simp; rfl) (by first | (simp; done) | (simp; omega)) (by kernel_rfl) ?_
              refine WS.d (by simp) (by simp; rfl) (by simp) (by kernel_rfl) ?_
              refine WS.d (by simp) (by simp; rfl) (by simp) (by kernel_rfl) ?_
              refine WS.d (by simp) (by simp; rfl) (by first | (simp; done) | (simp; omega)) (by kernel_rfl) ?_
              refine WS.d (by simp) (by simp; rfl) (by simp) (by kernel_rfl) ?_
              refine WS.d (by simp) (by simp; rfl) (by simp) (by kernel_rfl) ?_
              refine WS.d (by simp) (by simp; rfl) (by simp) (by kernel_rfl) ?_
              refine WS.keep [0, 1, 5, 6, 7, 54] ?_
              refine WP.cond (by first | rfl | (simp; rfl)) (fun hb => ?_) (fun hb => ?_)
              · try simp at hb
                refine WP.reg prg (by kernel_rfl) ?_ -- region 12 DRAWS
                refine WS.d (by simp) (by simp; rfl) (by simp) (by kernel_rfl) ?_
                refine WS.d (by simp) (by simp; rfl) (by simp) (by kernel_rfl) ?_
                refine WS.d (by simp) (by simp; rfl) (by simp) (by kernel_rfl) ?_
                refine WS.d (by simp) (by simp; rfl) (by simp) (by kernel_rfl) ?_
                refine WS.d (by simp) (by simp; rfl) (by first | (simp; done) | (simp; omega)) (by kernel_rfl) ?_
                refine WS.d (by simp) (by simp; rfl) (by first | (simp; done) | (simp; omega)) (by kernel_rfl) ?_
                refine WS.d (by simp) (by simp; rfl) (by simp) (by kernel_rfl) ?_
                refine WS.d (by simp) (by simp; rfl) (by simp) (by kernel_rfl) ?_
                refine WS.d (by simp) (by simp; rfl) (by first | (simp; done) | (simp; omega)) (by kernel_rfl) ?_
                refine WS.d (by simp) (by simp; rfl) (by first | (simp; done) | (simp; omega)) (by kernel_rfl) ?_
                refine WS.d (by simp) (by simp; rfl) (by simp) (by kernel_rfl) ?_
                refine WS.d (by simp) (by simp; rfl) (by first | (simp; done) | (simp; omega)) (by kernel_rfl) ?_
                refine WS.d (by simp) (by simp; rfl) (by first | (simp; done) | (simp; omega)) (by kernel_rfl) ?_
                refine WS.keep [0, 1, 5, 6, 7] ?_
                refine WP.regN prg (by kernel_rfl) ?_ -- region 10
                refine WN.op prg (by simp) (by simp; rfl) (by simp) ?_
                refine WN.op prg (by simp) (by simp; rfl) (by simp) ?_
                refine WN.op prg (by simp) (by simp; rfl) (by simp) ?_
                refine WN.keep [0, 1, 5, 6, 7] ?_
                have hjl : j < ms.length := by omega
                have hc : j ≠ k ∧ sameLine n j k = true := by
                  simp at hg37
                  exact ⟨by omega, by simp [sameLine, modn hb]⟩
                exact ⟨hjl, trivial, by simp [foldl_range, singJ, hc, bits_andNot (hoj.get j).1 (hoj.get j).2 m0 m1, wrap_id (n := (j : Int) + 1) (by omega) (by omega)]⟩
              · try simp at hb
                refine WP.skip ?_
                refine WP.regN prg (by kernel_rfl) ?_ -- region 10
                refine WN.op prg (by simp) (by simp; rfl) (by simp) ?_
                refine WN.op prg (by simp) (by simp; rfl) (by simp) ?_
                refine WN.op prg (by simp) (by simp; rfl) (by simp) ?_
                refine WN.keep [0, 1, 5, 6, 7] ?_
                have hjl : j < ms.length := by omega
                have hc : ¬ (j ≠ k ∧ sameLine n j k = true) := by
                  simp at hg45
                  rw [wrap_id (n := (j : Int) / n) (divn h2 (by omega)).1 (divn h2 (by omega)).2, wrap_id (n := (k : Int) / n) (divn h2 (by omega)).1 (divn h2 (by omega)).2] at hg45
                  rintro ⟨_, hs⟩
                  simp [sameLine, hg45] at hs
                  exact hb (modn' hs)
                exact ⟨hjl, trivial, by simp [foldl_range, singJ, if_neg hc, wrap_id (n := (j : Int) + 1) (by omega) (by omega)]⟩
          · refine WS.skipD (by simp) (by kernel_rfl) ?_
            refine WS.skipD (by simp) (by kernel_rfl) ?_
            refine WS.skipD (by simp) (by kernel_rfl) ?_
            refine WS.skipD (by simp) (by kernel_rfl) ?_
            refine WS.skipD (by simp) (by kernel_rfl) ?_
            refine WS.skipD (by simp) (by kernel_rfl) ?_
            refine WS.skipD (by simp) (by kernel_rfl) ?_
            refine WS.skipD (by simp) (by kernel_rfl) ?_
            refine WS.skipD (by simp) (by kernel_rfl) ?_
            refine WS.skipD (by simp) (by kernel_rfl) ?_
            refine WS.skipD (by simp) (by kernel_rfl) ?_
            refine WS.skipD (by simp) (by kernel_rfl) ?_
            refine WS.skipD (by simp) (by kernel_rfl) ?_
            refine WS.skipD (by simp) (by kernel_rfl) ?_
            refine WS.skipD (by simp) (by kernel_rfl) ?_
            refine WS.skipD (by simp) (by kernel_rfl) ?_
            refine WS.d (by simp) (by simp; rfl) (by simp) (by kernel_rfl) ?_
            refine WS.keep [0, 1, 5, 6, 7, 54] ?_
            refine WP.cond (by first | rfl | (simp; rfl)) (fun hb => absurd hb (by simp)) (fun hb => ?_)
            refine WP.skip ?_
            refine WP.regN prg (by kernel_rfl) ?_ -- region 10
            refine WN.op prg (by simp) (by simp; rfl) (by simp) ?_
            refine WN.op prg (by simp) (by simp; rfl) (by simp) ?_
            refine WN.op prg (by simp) (by simp; rfl) (by simp) ?_
            refine WN.keep [0, 1, 5, 6, 7] ?_
            have hjl : j < ms.length := by omega
            have hc : ¬ (j ≠ k ∧ sameLine n j k = true) := by
              simp at hg37
              rintro ⟨h, _⟩
              omega
            exact ⟨hjl, trivial, by simp [foldl_range, singJ, if_neg hc, wrap_id (n := (j : Int) + 1) (by omega) (by omega)]⟩
        · try simp at hb
          refine WP.exit ?_
          refine WP.regN prg (by kernel_rfl) ?_ -- region 6
          refine WN.op prg (by simp) (by simp; rfl) (by simp) ?_
          refine WN.op prg (by simp) (by simp; rfl) (by simp) ?_
          refine WN.op prg (by simp) (by simp; rfl) (by simp) ?_
          refine WN.keep [0, 1, 5, 6] ?_
          have hjl : j = ms.length := by omega
          exact ⟨by omega, trivial, by simp [foldl_range, sing1, hs, hjl, wrap_id (n := (k : Int) + 1) (by omega) (by omega)]⟩
    · try simp at hb
      refine WP.exit ?_
      refine WP.seq ?_
      refine WP.regN prg (by kernel_rfl) ?_ -- region 13
      refine WN.op prg (by simp) (by simp; rfl) (by simp) ?_
      refine WN.op prg (by simp) (by simp; rfl) (by simp) ?_
      refine WN.keep [4] ?_
      refine WP.ret (DoneQ.ret [] (by simp; rfl) (by simp; rfl) ?_)
      have hkk : k = ms.length := by omega
      have hl := hok.1
      rw [hkk] at hl
      exact ⟨rfl, by simp [narrow1, hm, hkk, List.take_of_length_le, hl]⟩
end Go.Proofs.Ytaicenafkjbnoaa

