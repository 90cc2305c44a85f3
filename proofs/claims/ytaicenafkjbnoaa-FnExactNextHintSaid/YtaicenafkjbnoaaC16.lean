/- Contracts: copies, counts of bits, first masks (program). -/
import Derived.Test.YtaicenafkjbnoaaC15
set_option linter.unusedVariables false
set_option linter.unusedSimpArgs false
namespace Go.Proofs.Ytaicenafkjbnoaa
open Go Go.AM
set_option maxRecDepth 100000

theorem WN.nilTest2 {P : Program} {tv : TV} {ops : Array Oper} {n : Nat} {s : St} {K : St → Prop} {r : List (Nat × Oper)} {i : Nat} (hP : Prog P tv) {t t' : TypeId} {x : Operand} {fr : Bool} {d : D} {dst ty : Nat} {pos : String} {aft : Array Edge} {g : Option (Nat × Bool)} {e : Nat} {ta : Ty}
    (hg : guardE ops s.env ⟨some dst, .binOp .eql t x (.const (.slice none 0 0)) t', ty, pos, aft, g⟩ = some true) (ht : tv t = some ta) (hk : ta.k = .slice e) (hx : s.evC x = .dsl fr d)
    (h : ∀ b, (b = true → d.len = 0) → WN P n ops r K ⟨(dst, .v (.c (.bool b))) :: s.env, s.heap⟩) : WN P n ops ((i, ⟨some dst, .binOp .eql t x (.const (.slice none 0 0)) t', ty, pos, aft, g⟩) :: r) K s := by
  obtain ⟨k, z, b, zs⟩ := ta
  cases hk
  exact WN.nilTest hP hg ht hx h
theorem c_clone (l : List Int) (hl : l.length ≤ 1000000) : CallsA Try.prog 133 [.c (.dsl false (.ints .i64 (l)))] [] fun r ho => ho = [(9000, .arr 0 true (.ints .i64 l))] ∧ r = .v (.c (.osl 9000 0 0 (l.length))) := by
  refine CallsA.of (tv := tyOf Try.prog) (fn := Try.f133) prg.tv Try.func133 rfl rfl (by simp) ?_
  refine WP.seq ?_
  refine WP.regN prg (by kernel_rfl) ?_ -- region 0
  refine WN.op prg (by simp) (by simp; rfl) (by simp) ?_
  refine WN.keep [0] ?_
  refine WP.seq ?_
  refine WP.seq ?_
  refine WP.regN prg (by kernel_rfl) ?_ -- region 1
  refine WN.op prg (by simp) (by simp; rfl) (by simp) ?_
  refine WN.nilTest2 (fr := false) (d := .ints .i64 l) prg (by simp) (by simp; rfl) rfl (by simp) ?_
  intro b hb0
  refine WN.keep [0, 4] ?_
  refine WP.cond (by first | rfl | (simp; rfl)) (fun hb => ?_) (fun hb => ?_)
  · try simp at hb
    refine WP.seq ?_
    refine WP.regN prg (by kernel_rfl) ?_ -- region 2
    refine WN.weak (Weak.ghost 8 (.ints .i64 []) (es := 1) (by omega) (by simp) rfl (by omega)) ?_
    refine WN.op prg (by simp) (by simp; rfl) (by simp) ?_
    refine WN.weak (Weak.nilT (t := 2) (id := 8) (ver := 0) (fr := true) (d := .ints .i64 []) (by simp) (by simp)) ?_
    refine WN.keep [2] ?_
    refine WP.ret (DoneQ.ret [8] (by simp; rfl) (by simp; rfl) ?_)
    have h0 : l = [] := List.eq_nil_of_length_eq_zero (by simpa [D.len] using hb0 hb)
    subst h0
    exact ⟨by simp, by simp⟩
  · try simp at hb
    refine WP.skip ?_
    refine WP.seq ?_
    refine WP.regN prg (by kernel_rfl) ?_ -- region 3
    refine WN.op prg (by simp) (by simp; rfl) (by simp) ?_
    refine WN.op prg (by simp) (by simp; rfl) (by simp) ?_
    refine WN.op prg (by simp) (by simp; rfl) (by first | (simp; done) | (simp; omega)) ?_
    refine WN.op prg (by simp) (by simp; rfl) (by simp) ?_
    refine WN.keep [2] ?_
    refine WP.ret (DoneQ.ret [40] (by simp; rfl) (by simp; rfl) ?_)
    exact ⟨by simp, by simp⟩
theorem c_equal (a b : List Int) (ha : a.length ≤ 1000000) (hb0 : b.length ≤ 140737488355328) : CallsA Try.prog 136 [.c (.dsl false (.ints .i64 (a))), .c (.dsl false (.ints .i64 (b)))] [] fun r ho => ho = [] ∧ r = .v (.c (.bool (decide (a = b)))) := by
  refine CallsA.of (tv := tyOf Try.prog) (fn := Try.f136) prg.tv Try.func136 rfl rfl (by simp) ?_
  refine WP.seq ?_
  refine WP.regN prg (by kernel_rfl) ?_ -- region 0
  refine WN.op prg (by simp) (by simp; rfl) (by simp) ?_
  refine WN.keep [0, 1] ?_
  refine WP.seq ?_
  refine WP.seq ?_
  refine WP.regN prg (by kernel_rfl) ?_ -- region 1
  refine WN.op prg (by simp) (by simp; rfl) (by simp) ?_
  refine WN.op prg (by simp) (by simp; rfl) (by simp) ?_
  refine WN.op prg (by simp) (by simp; rfl) (by simp) ?_
  refine WN.op prg (by simp) (by simp; rfl) (by simp) ?_
  refine WN.op prg (by simp) (by simp; rfl) (by simp) ?_
  refine WN.keep [0, 1, 10] ?_
  refine WP.cond (by first | rfl | (simp; rfl)) (fun hb => ?_) (fun hb => ?_)
  · try simp at hb
    refine WP.seq ?_
    refine WP.regN prg (by kernel_rfl) ?_ -- region 2
    refine WN.op prg (by simp) (by simp; rfl) (by simp) ?_
    refine WN.keep [4] ?_
    refine WP.ret (DoneQ.ret [] (by simp; rfl) (by simp; rfl) ?_)
    have : a ≠ b := fun e => hb (by rw [e])
    exact ⟨rfl, by simp [this]⟩
  · try simp at hb
    refine WP.skip ?_
    refine WP.seq ?_
    refine WP.seq ?_
    refine WP.regN prg (by kernel_rfl) ?_ -- region 3
    refine WN.op prg (by simp) (by simp; rfl) (by simp) ?_
    refine WN.op prg (by simp) (by simp; rfl) (by simp) ?_
    refine WN.op prg (by simp) (by simp; rfl) (by simp) ?_
    refine WN.keep [0, 1, 12, 13] ?_
    refine WP.block ?_
    have hlen : a.length = b.length := by omega
    refine WP.loopU (a.length) (fun k => [(13, .v (.c (.int .i64 (k))))]) (fun k => []) (fun k => (∀ j, j < k → a[j]?.getD 0 = b[j]?.getD 0)) (fun k => by simp [putAll]; rfl) (fun k => by simp; rfl) (by simp) (by simp) (by simp) ?_
    intro k hk hall
    refine WP.seq ?_
    refine WP.regN prg (by kernel_rfl) ?_ -- region 4
    refine WN.op prg (by simp) (by simp; rfl) (by simp) ?_
    refine WN.keep [0, 1, 12, 13, 14] ?_
    refine WP.seq ?_
    refine WP.cond (by first | rfl | (simp; rfl)) (fun hb => ?_) (fun hb => ?_)
    · try simp at hb
      refine WP.skip ?_
      refine WP.seq ?_
      refine WP.block ?_
      refine WP.seq ?_
      refine WP.regN prg (by kernel_rfl) ?_ -- region 5
      refine WN.op prg (by simp) (by simp; rfl) (by simp) ?_
      refine WN.op prg (by simp) (by simp; rfl) (by simp) ?_
      refine WN.keep [0, 1, 5, 12, 13] ?_
      refine WP.seq ?_
      refine WP.reg prg (by kernel_rfl) ?_ -- region 6 DRAWS
      refine WS.d (by simp) (by simp; rfl) (by simp) (by kernel_rfl) ?_
      refine WS.d (by simp) (by simp; rfl) (by simp) (by kernel_rfl) ?_
      refine WS.d (by simp) (by simp; rfl) (by first | (simp; done) | (simp; omega)) (by kernel_rfl) ?_
      refine WS.d (by simp) (by simp; rfl) (by first | (simp; done) | (simp; omega)) (by kernel_rfl) ?_
      refine WS.d (by simp) (by simp; rfl) (by simp) (by kernel_rfl) ?_
      refine WS.d (by simp) (by simp; rfl) (by simp) (by kernel_rfl) ?_
      refine WS.d (by simp) (by simp; rfl) (by first | (simp; done) | (simp; omega)) (by kernel_rfl) ?_
      refine WS.d (by simp) (by simp; rfl) (by first | (simp; done) | (simp; omega)) (by kernel_rfl) ?_
      refine WS.d (by simp) (by simp; rfl) (by simp) (by kernel_rfl) ?_
      refine WS.keep [0, 1, 12, 13, 24] ?_
      refine WP.cond (by first | rfl | (simp; rfl)) (fun hb => ?_) (fun hb => ?_)
      · try simp at hb
        refine WP.seq ?_
        refine WP.regN prg (by kernel_rfl) ?_ -- region 7
        refine WN.op prg (by simp) (by simp; rfl) (by simp) ?_
        refine WN.keep [4] ?_
        refine WP.ret (DoneQ.ret [] (by simp; rfl) (by simp; rfl) ?_)
        have : a ≠ b := fun e => hb (by rw [e])
        exact ⟨rfl, by simp [this]⟩
      · try simp at hb
        refine WP.skip ?_
        refine WP.regN prg (by kernel_rfl) ?_ -- region 8
        refine WN.op prg (by simp) (by simp; rfl) (by simp) ?_
        refine WN.op prg (by simp) (by simp; rfl) (by simp) ?_
        refine WN.keep [0, 1, 12, 13] ?_
        refine ⟨by omega, fun j hj => ?_, by simp [wrap_id (n := (k : Int) + 1) (by omega) (by omega)]⟩
        by_cases h : j = k
        · subst h; exact hb
        · exact hall j (by omega)
    · try simp at hb
      refine WP.exit ?_
      refine WP.seq ?_
      refine WP.regN prg (by kernel_rfl) ?_ -- region 9
      refine WN.op prg (by simp) (by simp; rfl) (by simp) ?_
      refine WN.keep [4] ?_
      refine WP.ret (DoneQ.ret [] (by simp; rfl) (by simp; rfl) ?_)
      have : a = b := by
        apply List.ext_getElem hlen
        intro i h1 h2
        have := hall i (by omega)
        rw [List.getElem?_eq_getElem h1, List.getElem?_eq_getElem h2] at this
        simpa using this
      exact ⟨rfl, by simp [this]⟩
theorem fin_all' {p : Int → Prop} {N : Nat} (h : ∀ i : Fin N, p ((i.val : Nat) : Int)) : ∀ a : Int, 0 ≤ a → a < N → p a := fun _ ha hb => fin_all h ha hb
theorem c_ones64 (x : Int) (h0 : 0 ≤ x) (h1 : x < 32) (h2 : x % 2 = 0) : CallsA Try.prog 189 [.c (.int .u64 x)] [] fun r ho => ho = [] ∧ r = .v (.c (.int .i64 ((maskVals x).length))) := by
  refine CallsA.of (tv := tyOf Try.prog) (fn := Try.f189) prg.tv Try.func189 rfl rfl (by simp) ?_
  refine WP.seq ?_
  refine WP.regN prg (by kernel_rfl) ?_ -- region 0
  refine WN.op prg (by simp) (by simp; rfl) (by simp) ?_
  refine WN.keep [0] ?_
  refine WP.seq ?_
  refine WP.regN prg (by kernel_rfl) ?_ -- region 1
  refine WN.op prg (by simp) (by simp; rfl) (by simp) ?_
  refine WN.op prg (by simp) (by simp; rfl) (by first | (simp; done) | (simp; omega)) ?_
  refine WN.op prg (by simp) (by simp; rfl) (by simp) ?_
  refine WN.op prg (by simp) (by simp; rfl) (by simp) ?_
  refine WN.op prg (by simp) (by simp; rfl) (by simp) ?_
  refine WN.op prg (by simp) (by simp; rfl) (by simp) ?_
  refine WN.op prg (by simp) (by simp; rfl) (by simp) ?_
  refine WN.keep [0] ?_
  refine WP.seq ?_
  refine WP.regN prg (by kernel_rfl) ?_ -- region 2
  refine WN.op prg (by simp) (by simp; rfl) (by simp) ?_
  refine WN.op prg (by simp) (by simp; rfl) (by first | (simp; done) | (simp; omega)) ?_
  refine WN.op prg (by simp) (by simp; rfl) (by simp) ?_
  refine WN.op prg (by simp) (by simp; rfl) (by simp) ?_
  refine WN.op prg (by simp) (by simp; rfl) (by simp) ?_
  refine WN.op prg (by simp) (by simp; rfl) (by simp) ?_
  refine WN.op prg (by simp) (by simp; rfl) (by simp) ?_
  refine WN.keep [0] ?_
  refine WP.seq ?_
  refine WP.regN prg (by kernel_rfl) ?_ -- region 3
  refine WN.op prg (by simp) (by simp; rfl) (by simp) ?_
  refine WN.op prg (by simp) (by simp; rfl) (by first | (simp; done) | (simp; omega)) ?_
  refine WN.op prg (by simp) (by simp; rfl) (by simp) ?_
  refine WN.op prg (by simp) (by simp; rfl) (by simp) ?_
  refine WN.op prg (by simp) (by simp; rfl) (by simp) ?_
  refine WN.op prg (by simp) (by simp; rfl) (by simp) ?_
  refine WN.keep [0] ?_
  refine WP.seq ?_
  refine WP.regN prg (by kernel_rfl) ?_ -- region 4
  refine WN.op prg (by simp) (by simp; rfl) (by simp) ?_
  refine WN.op prg (by simp) (by simp; rfl) (by simp) ?_
  refine WN.op prg (by simp) (by simp; rfl) (by first | (simp; done) | (simp; omega)) ?_
  refine WN.op prg (by simp) (by simp; rfl) (by simp) ?_
  refine WN.op prg (by simp) (by simp; rfl) (by simp) ?_
  refine WN.keep [0] ?_
  refine WP.seq ?_
  refine WP.regN prg (by kernel_rfl) ?_ -- region 5
  refine WN.op prg (by simp) (by simp; rfl) (by simp) ?_
  refine WN.op prg (by simp) (by simp; rfl) (by simp) ?_
  refine WN.op prg (by simp) (by simp; rfl) (by first | (simp; done) | (simp; omega)) ?_
  refine WN.op prg (by simp) (by simp; rfl) (by simp) ?_
  refine WN.op prg (by simp) (by simp; rfl) (by simp) ?_
  refine WN.keep [0] ?_
  refine WP.seq ?_
  refine WP.regN prg (by kernel_rfl) ?_ -- region 6
  refine WN.op prg (by simp) (by simp; rfl) (by simp) ?_
  refine WN.op prg (by simp) (by simp; rfl) (by simp) ?_
  refine WN.op prg (by simp) (by simp; rfl) (by first | (simp; done) | (simp; omega)) ?_
  refine WN.op prg (by simp) (by simp; rfl) (by simp) ?_
  refine WN.op prg (by simp) (by simp; rfl) (by simp) ?_
  refine WN.keep [0] ?_
  refine WP.seq ?_
  refine WP.regN prg (by kernel_rfl) ?_ -- region 7
  refine WN.op prg (by simp) (by simp; rfl) (by simp) ?_
  refine WN.op prg (by simp) (by simp; rfl) (by simp) ?_
  refine WN.op prg (by simp) (by simp; rfl) (by simp) ?_
  refine WN.op prg (by simp) (by simp; rfl) (by simp) ?_
  refine WN.keep [2] ?_
  refine WP.ret (DoneQ.ret [] (by simp; rfl) (by simp; rfl) ?_)
  refine ⟨rfl, ?_⟩
  simp
  revert x
  refine fin_all' (N := 32) ?_
  decide +kernel
theorem c_ones (x : Int) (h0 : 0 ≤ x) (h1 : x < 32) (h2 : x % 2 = 0) : CallsA Try.prog 183 [.c (.int .u64 x)] [] fun r ho => ho = [] ∧ r = .v (.c (.int .i64 ((maskVals x).length))) := by
  refine CallsA.of (tv := tyOf Try.prog) (fn := Try.f183) prg.tv Try.func183 rfl rfl (by simp) ?_
  refine WP.seq ?_
  refine WP.regN prg (by kernel_rfl) ?_ -- region 0
  refine WN.op prg (by simp) (by simp; rfl) (by simp) ?_
  refine WN.keep [0] ?_
  refine WP.seq ?_
  refine WP.cond (by first | rfl | (simp; rfl)) (fun hb => ?_) (fun hb => ?_)
  · exact absurd hb (by simp)
  · try simp at hb
    refine WP.skip ?_
    refine WP.seq ?_
    refine WP.regN prg (by kernel_rfl) ?_ -- region 2
    refine WN.op prg (by simp) (by simp; rfl) (by simp) ?_
    refine WN.call prg [] [] (by simp) rfl (by simp; rfl) (by simp) (CallsA.at (by simp) (by simp) (c_ones64 x h0 h1 h2)) ?_
    rintro _ _ ⟨rfl, rfl⟩
    refine ⟨_, by simp; rfl, ?_⟩
    refine WN.op prg (by simp) (by simp; rfl) (by simp) ?_
    refine WN.keep [2] ?_
    refine WP.ret (DoneQ.ret [] (by simp; rfl) (by simp; rfl) ?_)
    exact ⟨rfl, by simp⟩
def fillK (src out : List Int) : Nat → List Int
  | 0 => out
  | k + 1 => (fillK src out k).set k (src[k]?.getD 0)
@[simp] theorem fillK_zero (src out : List Int) : fillK src out 0 = out := rfl
theorem fillK_len (src out : List Int) : ∀ k, (fillK src out k).length = out.length
  | 0 => rfl
  | k + 1 => by simp [fillK, fillK_len src out k]
theorem fillK_get (src out : List Int) : ∀ k i, i < out.length → (fillK src out k)[i]? = if i < k then some (src[i]?.getD 0) else out[i]?
  | 0, i, h => by simp
  | k + 1, i, h => by
    simp only [fillK, List.getElem?_set, fillK_len]
    by_cases e : k = i
    · subst e
      rw [if_pos rfl, if_pos h, if_pos (by omega)]
    · rw [if_neg e, fillK_get src out k i h]
      by_cases h2 : i < k
      · rw [if_pos h2, if_pos (by omega)]
      · rw [if_neg h2, if_neg (by omega)]
theorem fillK_all {src out : List Int} (h : out.length = src.length) : fillK src out src.length = src := by
  apply List.ext_getElem?
  intro i
  by_cases hi : i < src.length
  · rw [fillK_get src out _ i (by omega), if_pos hi, List.getElem?_eq_getElem hi]
    rfl
  · rw [List.getElem?_eq_none (by rw [fillK_len]; omega), List.getElem?_eq_none (by omega)]
theorem w_implStartMasks (p : Puzzle) (hp : p.Fits) : CallsA Try.prog 91 [p.v false] [] fun r ho => ho = [] ∧ LeLV r (.v (.c (.dsl true (.ints .i64 (startMasks p))))) := by
  unfold Puzzle.v rulesD
  refine CallsA.of (tv := tyOf Try.prog) (fn := Try.f91) prg.tv Try.func91 rfl rfl (by simp) ?_
  refine WP.seq ?_
  refine WP.regN prg (by kernel_rfl) ?_ -- region 0
  refine WN.op prg (by simp) (by simp; rfl) (by simp) ?_
  refine WN.op prg (by simp) (by simp; rfl) (by simp) ?_
  refine WN.keep [1] ?_
  refine WP.seq ?_
  refine WP.seq ?_
  refine WP.regN prg (by kernel_rfl) ?_ -- region 1
  refine WN.op prg (by simp) (by simp; rfl) (by first | (simp; done) | (simp; omega)) ?_
  refine WN.call prg [] [] (by simp) rfl (by simp; rfl) (by simp) (CallsA.at (by simp) (by simp) (c_implPuzzleValid p hp)) ?_
  rintro _ _ ⟨rfl, rfl⟩
  refine ⟨_, by simp; rfl, ?_⟩
  refine WN.op prg (by simp) (by simp; rfl) (by simp) ?_
  refine WN.keep [1, 8] ?_
  refine WP.cond (by first | rfl | (simp; rfl)) (fun hb => ?_) (fun hb => ?_)
  · try simp at hb
    refine WP.seq ?_
    refine WP.regN prg (by kernel_rfl) ?_ -- region 2
    refine WN.op prg (by simp) (by simp; rfl) (by simp) ?_
    refine WN.keep [2] ?_
    refine WP.ret (DoneQ.ret [] (by simp; rfl) (by simp; rfl) ?_)
    exact ⟨rfl, by simp [startMasks, hb]; exact leNil _⟩
  · try simp at hb
    refine WP.skip ?_
    refine WP.seq ?_
    refine WP.regN prg (by kernel_rfl) ?_ -- region 3
    have hgl0 := grid_len (puzzleOk_iff.1 hb).1
    refine WN.op prg (by simp) (by simp; rfl) (by simp) ?_
    refine WN.op prg (by simp) (by simp; rfl) (by first | (simp; done) | (simp; omega)) ?_
    refine WN.op prg (by simp) (by simp; rfl) (by simp) ?_
    refine WN.op prg (by simp) (by simp; rfl) (by first | (simp; done) | (simp; omega)) ?_
    refine WN.op prg (by simp) (by simp; rfl) (by simp) ?_
    refine WN.keep [1, 3] ?_
    refine WP.seq ?_
    refine WP.seq ?_
    refine WP.regN prg (by kernel_rfl) ?_ -- region 4
    refine WN.op prg (by simp) (by simp; rfl) (by simp) ?_
    refine WN.op prg (by simp) (by simp; rfl) (by first | (simp; done) | (simp; omega)) ?_
    refine WN.op prg (by simp) (by simp; rfl) (by simp) ?_
    refine WN.op prg (by simp) (by simp; rfl) (by simp) ?_
    refine WN.keep [1, 3, 14, 15, 16] ?_
    refine WP.block ?_
    have hpo := hb
    have hpg := (puzzleOk_iff.1 hpo).1
    have hgl := grid_len hpg
    obtain ⟨h2, h4, hll⟩ := gridOk_size hpg
    have hgm : (gridMasks p.given p.size).length = p.given.length := by simp [gridMasks]
    refine WP.loopU (p.given.length) (fun k => [(16, .v (.c (.int .i64 (k))))]) (fun k => [(96, .arr 0 true (.ints .i64 (fillK (gridMasks p.given p.size) (List.replicate p.given.length 0) k)))]) (fun k => True) (fun k => by simp [putAll]; rfl) (fun k => by simp; rfl) (by simp) (by simp) (by simp) ?_
    intro k hk _
    have hgv := gridOk_get hpg k
    have hfl := fillK_len (gridMasks p.given p.size) (List.replicate p.given.length 0) k
    simp at hfl
    refine WP.seq ?_
    refine WP.regN prg (by kernel_rfl) ?_ -- region 5
    refine WN.op prg (by simp) (by simp; rfl) (by simp) ?_
    refine WN.keep [1, 3, 14, 15, 16, 17] ?_
    refine WP.seq ?_
    refine WP.cond (by first | rfl | (simp; rfl)) (fun hb => ?_) (fun hb => ?_)
    · try simp at hb
      refine WP.skip ?_
      refine WP.seq ?_
      refine WP.block ?_
      refine WP.seq ?_
      refine WP.regN prg (by kernel_rfl) ?_ -- region 6
      refine WN.op prg (by simp) (by simp; rfl) (by simp) ?_
      refine WN.op prg (by simp) (by simp; rfl) (by first | (simp; done) | (simp; omega)) ?_
      refine WN.op prg (by simp) (by simp; rfl) (by first | (simp; done) | (simp; omega)) ?_
      refine WN.op prg (by simp) (by simp; rfl) (by simp) ?_
      refine WN.op prg (by simp) (by simp; rfl) (by simp) ?_
      refine WN.keep [1, 3, 4, 5, 14, 15, 16] ?_
      refine WP.seq ?_
      refine WP.regN prg (by kernel_rfl) ?_ -- region 7
      refine WN.op prg (by simp) (by simp; rfl) (by simp) ?_
      refine WN.op prg (by simp) (by simp; rfl) (by simp) ?_
      refine WN.op prg (by simp) (by simp; rfl) (by simp) ?_
      refine WN.op prg (by simp) (by simp; rfl) (by first | (simp; done) | (simp; omega)) ?_
      refine WN.call prg [] [] (by simp) rfl (by simp; rfl) (by simp) (CallsA.at (by simp) (by simp) (c_allValues p.size (by omega) (by omega))) ?_
      rintro _ _ ⟨rfl, rfl⟩
      refine ⟨_, by simp; rfl, ?_⟩
      refine WN.op prg (by simp) (by simp; rfl) (by first | (simp; done) | (simp; omega)) ?_
      refine WN.op prg (by simp) (by simp; rfl) (by first | (simp; done) | (simp; omega)) ?_
      refine WN.keep [1, 3, 4, 5, 14, 15, 16] ?_
      refine WP.seq ?_
      refine WP.regN prg (by kernel_rfl) ?_ -- region 8
      refine WN.op prg (by simp) (by simp; rfl) (by simp) ?_
      refine WN.op prg (by simp) (by simp; rfl) (by simp) ?_
      refine WN.keep [1, 3, 4, 5, 14, 15, 16, 28] ?_
      refine WP.cond (by first | rfl | (simp; rfl)) (fun hb => ?_) (fun hb => ?_)
      · try simp at hb
        refine WP.regN prg (by kernel_rfl) ?_ -- region 9
        refine WN.op prg (by simp) (by simp; rfl) (by simp) ?_
        refine WN.op prg (by simp) (by simp; rfl) (by simp) ?_
        refine WN.op prg (by simp) (by simp; rfl) (by simp) ?_
        refine WN.op prg (by simp) (by simp; rfl) (by first | (simp; done) | (simp; omega)) ?_
        refine WN.op prg (by simp) (by simp; rfl) (by first | (simp; done) | (simp; omega)) ?_
        refine WN.op prg (by simp) (by simp; rfl) (by first | (simp; done) | (simp; omega)) ?_
        refine WN.keep [1, 3, 14, 15, 16] ?_
        refine WP.regN prg (by kernel_rfl) ?_ -- region 10
        refine WN.op prg (by simp) (by simp; rfl) (by simp) ?_
        refine WN.op prg (by simp) (by simp; rfl) (by simp) ?_
        refine WN.keep [1, 3, 14, 15, 16] ?_
        have e1 := shl_one' hgv.1 (by omega)
        have hkl : k < p.given.length := by omega
        have hpos : 0 < p.given[k]?.getD 0 := hb
        have hx : (gridMasks p.given p.size)[k]?.getD 0 = one (p.given[k]?.getD 0) := by
          rw [List.getElem?_eq_getElem hkl] at hpos
          simp at hpos
          simp [gridMasks, List.getElem?_eq_getElem hkl, cellMask, hpos]
        exact ⟨hkl, trivial, by simp [e1, fillK, hx, wrap_id (n := (k : Int) + 1) (by omega) (by omega)]⟩
      · try simp at hb
        refine WP.skip ?_
        refine WP.regN prg (by kernel_rfl) ?_ -- region 10
        refine WN.op prg (by simp) (by simp; rfl) (by simp) ?_
        refine WN.op prg (by simp) (by simp; rfl) (by simp) ?_
        refine WN.keep [1, 3, 14, 15, 16] ?_
        have hkl : k < p.given.length := by omega
        have hpos : ¬ 0 < p.given[k]?.getD 0 := by omega
        have hx : (gridMasks p.given p.size)[k]?.getD 0 = allV p.size := by
          rw [List.getElem?_eq_getElem hkl] at hpos
          simp at hpos
          simp [gridMasks, List.getElem?_eq_getElem hkl, cellMask]
          omega
        exact ⟨hkl, trivial, by simp [fillK, hx, wrap_id (n := (k : Int) + 1) (by omega) (by omega)]⟩
    · try simp at hb
      refine WP.exit ?_
      refine WP.seq ?_
      refine WP.regN prg (by kernel_rfl) ?_ -- region 11
      refine WN.op prg (by simp) (by simp; rfl) (by simp) ?_
      refine WN.op prg (by simp) (by simp; rfl) (by simp) ?_
      refine WN.keep [2] ?_
      refine WP.ret (DoneQ.ret [] (by simp; rfl) (by simp; rfl) ?_)
      have hkk : k = p.given.length := by omega
      have hfa := fillK_all (src := gridMasks p.given p.size) (out := List.replicate p.given.length 0) (by simp [hgm])
      rw [hgm] at hfa
      exact ⟨rfl, by simp [startMasks, hpo, hkk, hfa, List.take_of_length_le, hgm]; exact LeLV.refl _⟩
theorem c_implStartMasks (p : Puzzle) (hp : p.Fits) : CallsA Try.prog 91 [p.v false] [] fun r ho => ho = [] ∧ r = .v (.c (.dsl true (.ints .i64 (startMasks p)))) := CallsA.le (w_implStartMasks p hp)
/-- Both grids, where they agree. -/
def bothR (gv g : List Int) : Option (List Int) := if agree gv g = true then some (withG gv g) else none
def bothV (o : Option (List Int)) : LV :=
  match o with
  | some l => .tup [.c (.dsl true (.ints .i64 l)), .c (.bool true)]
  | none => .tup [.c (.dsl true (.ints .i64 [])), .c (.bool false)]
theorem w_bothGrids (gv g : List Int) (n : Int) (hgv : gridOk gv n = true) (hg : gridOk g n = true) : CallsA Try.prog 90 [.c (.dsl false (.ints .i64 (gv))), .c (.dsl false (.ints .i64 (g)))] [] fun r ho => ho = [] ∧ LeLV r (bothV (bothR gv g)) := by
  have hl1 := grid_len hgv
  have hl2 := grids_len hgv hg
  refine CallsA.of (tv := tyOf Try.prog) (fn := Try.f90) prg.tv Try.func90 rfl rfl (by simp) ?_
  refine WP.seq ?_
  refine WP.regN prg (by kernel_rfl) ?_ -- region 0
  refine WN.op prg (by simp) (by simp; rfl) (by simp) ?_
  refine WN.op prg (by simp) (by simp; rfl) (by simp) ?_
  refine WN.keep [0, 1] ?_
  refine WP.seq ?_
  refine WP.regN prg (by kernel_rfl) ?_ -- region 1
  refine WN.op prg (by simp) (by simp; rfl) (by simp) ?_
  refine WN.op prg (by simp) (by simp; rfl) (by simp) ?_
  refine WN.op prg (by simp) (by simp; rfl) (by first | (simp; done) | (simp; omega)) ?_
  refine WN.op prg (by simp) (by simp; rfl) (by simp) ?_
  refine WN.keep [0, 1, 6] ?_
  refine WP.seq ?_
  refine WP.seq ?_
  refine WP.regN prg (by kernel_rfl) ?_ -- region 2
  refine WN.op prg (by simp) (by simp; rfl) (by simp) ?_
  refine WN.op prg (by simp) (by simp; rfl) (by simp) ?_
  refine WN.op prg (by simp) (by simp; rfl) (by simp) ?_
  refine WN.keep [1, 6, 12, 13, 14] ?_
  refine WP.block ?_
  refine WP.loopU (gv.length) (fun k => [(14, .v (.c (.int .i64 (k))))]) (fun k => [(88, .arr 0 true (.ints .i64 (fillK (withG gv g) (List.replicate gv.length 0) k)))]) (fun k => (∀ j, j < k → badA gv g j = false)) (fun k => by simp [putAll]; rfl) (fun k => by simp; rfl) (by simp) (by simp) (by simp) ?_
  intro k hk hno
  have hv1 := gridOk_get hgv k
  have hv2 := gridOk_get hg k
  have hfl := fillK_len (withG gv g) (List.replicate gv.length 0) k
  simp at hfl
  refine WP.seq ?_
  refine WP.regN prg (by kernel_rfl) ?_ -- region 3
  refine WN.op prg (by simp) (by simp; rfl) (by simp) ?_
  refine WN.keep [1, 6, 12, 13, 14, 15] ?_
  refine WP.seq ?_
  refine WP.cond (by first | rfl | (simp; rfl)) (fun hb => ?_) (fun hb => ?_)
  · try simp at hb
    refine WP.skip ?_
    refine WP.seq ?_
    refine WP.block ?_
    refine WP.seq ?_
    refine WP.regN prg (by kernel_rfl) ?_ -- region 4
    refine WN.op prg (by simp) (by simp; rfl) (by simp) ?_
    refine WN.op prg (by simp) (by simp; rfl) (by first | (simp; done) | (simp; omega)) ?_
    refine WN.op prg (by simp) (by simp; rfl) (by first | (simp; done) | (simp; omega)) ?_
    refine WN.op prg (by simp) (by simp; rfl) (by simp) ?_
    refine WN.op prg (by simp) (by simp; rfl) (by simp) ?_
    refine WN.keep [1, 6, 7, 8, 12, 13, 14] ?_
    refine WP.seq ?_
    refine WP.regN prg (by kernel_rfl) ?_ -- region 5
    refine WN.op prg (by simp) (by simp; rfl) (by simp) ?_
    refine WN.op prg (by simp) (by simp; rfl) (by simp) ?_
    refine WN.op prg (by simp) (by simp; rfl) (by simp) ?_
    refine WN.op prg (by simp) (by simp; rfl) (by simp) ?_
    refine WN.op prg (by simp) (by simp; rfl) (by simp) ?_
    refine WN.op prg (by simp) (by simp; rfl) (by first | (simp; done) | (simp; omega)) ?_
    refine WN.op prg (by simp) (by simp; rfl) (by first | (simp; done) | (simp; omega)) ?_
    refine WN.op prg (by simp) (by simp; rfl) (by simp) ?_
    refine WN.op prg (by simp) (by simp; rfl) (by first | (simp; done) | (simp; omega)) ?_
    refine WN.op prg (by simp) (by simp; rfl) (by first | (simp; done) | (simp; omega)) ?_
    refine WN.keep [1, 6, 7, 8, 12, 13, 14] ?_
    refine WP.seq ?_
    refine WP.regN prg (by kernel_rfl) ?_ -- region 6
    refine WN.op prg (by simp) (by simp; rfl) (by simp) ?_
    refine WN.op prg (by simp) (by simp; rfl) (by simp) ?_
    refine WN.op prg (by simp) (by simp; rfl) (by simp) ?_
    apply WN.join (t := 36) 6 30
    · first | rfl | (simp; rfl)
    · intro hg30
      refine WN.op prg (by simp) (by simp; rfl) (by simp) ?_
      refine WN.op prg (by simp) (by simp; rfl) (by simp) ?_
      refine WN.op prg (by simp) (by simp; rfl) (by first | (simp; done) | (simp; omega)) ?_
      refine WN.op prg (by simp) (by simp; rfl) (by first | (simp; done) | (simp; omega)) ?_
      refine WN.op prg (by simp) (by simp; rfl) (by simp) ?_
      refine WN.op prg (by simp) (by simp; rfl) (by simp) ?_
      exact WN.keep [36, 1, 6, 7, 8, 12, 13, 14, 38, 39, 40, 41, 42, 43] rfl
    · intro hg30
      refine WN.skip prg (by simp) ?_
      refine WN.skip prg (by simp) ?_
      refine WN.skip prg (by simp) ?_
      refine WN.skip prg (by simp) ?_
      refine WN.skip prg (by simp) ?_
      refine WN.op prg (by simp) (by simp; rfl) (by simp) ?_
      exact WN.keep [36, 1, 6, 7, 8, 12, 13, 14, 38, 39, 40, 41, 42, 43] rfl
    refine WN.op prg (by simp) (by simp; rfl) (by simp) ?_
    apply WN.join (t := 44) 7 37
    · first | rfl | (simp; rfl)
    · intro hg37
      refine WN.op prg (by simp) (by simp; rfl) (by simp) ?_
      refine WN.op prg (by simp) (by simp; rfl) (by simp) ?_
      refine WN.op prg (by simp) (by simp; rfl) (by simp) ?_
      refine WN.op prg (by simp) (by simp; rfl) (by first | (simp; done) | (simp; omega)) ?_
      refine WN.op prg (by simp) (by simp; rfl) (by first | (simp; done) | (simp; omega)) ?_
      refine WN.op prg (by simp) (by simp; rfl) (by simp) ?_
      refine WN.op prg (by simp) (by simp; rfl) (by simp) ?_
      exact WN.keep [44, 1, 6, 12, 13, 14] rfl
    · intro hg37
      refine WN.skip prg (by simp) ?_
      refine WN.skip prg (by simp) ?_
      refine WN.skip prg (by simp) ?_
      refine WN.skip prg (by simp) ?_
      refine WN.skip prg (by simp) ?_
      refine WN.skip prg (by simp) ?_
      refine WN.op prg (by simp) (by simp; rfl) (by simp) ?_
      exact WN.keep [44, 1, 6, 12, 13, 14] rfl
    refine WN.keep [1, 6, 12, 13, 14, 44] ?_
    refine WP.cond (by first | rfl | (simp; rfl)) (fun hb => ?_) (fun hb => ?_)
    · try simp at hb
      refine WP.seq ?_
      refine WP.regN prg (by kernel_rfl) ?_ -- region 7
      refine WN.op prg (by simp) (by simp; rfl) (by simp) ?_
      refine WN.op prg (by simp) (by simp; rfl) (by simp) ?_
      refine WN.keep [4, 5] ?_
      refine WP.ret (DoneQ.ret [] (by simp; rfl) (by simp; rfl) ?_)
      have hbad : badA gv g k = true := by simp [badA, pos, hb]; omega
      have e : bothR gv g = none := by simp [bothR, agree_bad (by omega) hbad]
      rw [e]
      exact ⟨rfl, by simp; exact LeLV.tup ⟨LeV.c (LeC.nil true (es := 1) rfl (by omega)), LeV.refl _, trivial⟩⟩
    · try simp at hb
      refine WP.skip ?_
      refine WP.regN prg (by kernel_rfl) ?_ -- region 8
      refine WN.op prg (by simp) (by simp; rfl) (by simp) ?_
      refine WN.op prg (by simp) (by simp; rfl) (by simp) ?_
      refine WN.keep [1, 6, 12, 13, 14] ?_
      have hbad : badA gv g k = false := by
        simp [badA, pos]
        intro h1 h2
        exact (hb h2 h1).symm
      have hx : (withG gv g)[k]?.getD 0 = if gv[k]?.getD 0 < g[k]?.getD 0 then g[k]?.getD 0 else gv[k]?.getD 0 := by
        rw [withG_get (by omega)]
        by_cases h0 : 0 < g[k]?.getD 0
        · rw [if_pos h0]
          by_cases h1 : 0 < gv[k]?.getD 0
          · rw [hb h1 h0]
            simp
          · rw [if_pos (by omega)]
        · rw [if_neg h0, if_neg (by omega)]
      refine ⟨by omega, fun j hj => ?_, by simp [fillK, hx, wrap_id (n := (k : Int) + 1) (by omega) (by omega)]⟩
      by_cases h : j = k
      · subst h; exact hbad
      · exact hno j (by omega)
  · try simp at hb
    refine WP.exit ?_
    refine WP.seq ?_
    refine WP.regN prg (by kernel_rfl) ?_ -- region 9
    refine WN.op prg (by simp) (by simp; rfl) (by simp) ?_
    refine WN.op prg (by simp) (by simp; rfl) (by simp) ?_
    refine WN.op prg (by simp) (by simp; rfl) (by simp) ?_
    refine WN.keep [4, 5] ?_
    refine WP.ret (DoneQ.ret [] (by simp; rfl) (by simp; rfl) ?_)
    have hkk : k = gv.length := by omega
    have hag : agree gv g = true := agree_iff.2 fun j hj => hno j (by omega)
    have hwl : (withG gv g).length = gv.length := by simp [withG]
    have hfa := fillK_all (src := withG gv g) (out := List.replicate gv.length 0) (by simp [hwl])
    rw [hwl] at hfa
    exact ⟨rfl, by simp [bothR, hag, bothV, hkk, hfa, List.take_of_length_le, hwl]; exact LeLV.refl _⟩
theorem c_bothGrids (gv g : List Int) (n : Int) (hgv : gridOk gv n = true) (hg : gridOk g n = true) : CallsA Try.prog 90 [.c (.dsl false (.ints .i64 (gv))), .c (.dsl false (.ints .i64 (g)))] [] fun r ho => ho = [] ∧ r = bothV (bothR gv g) := CallsA.le (w_bothGrids gv g n hgv hg)
end Go.Proofs.Ytaicenafkjbnoaa

