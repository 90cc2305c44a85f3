/- Contracts: lines. -/
import Derived.Test.YtaicenafkjbnoaaC3
set_option linter.unusedVariables false
set_option linter.unusedSimpArgs false
namespace Go.Proofs.Ytaicenafkjbnoaa
open Go Go.AM
set_option maxRecDepth 100000

theorem leNil (fr : Bool) : LeLV (.v (.c .nil)) (.v (.c (.dsl fr (.ints .i64 [])))) := LeLV.c (LeC.nil fr (es := 1) rfl (by omega))
theorem leNilR (fr : Bool) (es : Nat) (h : 0 < es) : LeLV (.v (.c .nil)) (.v (.c (.dsl fr (.recs es [])))) := LeLV.c (LeC.nil fr (es := es) rfl h)
/-- A result in weaker words, nothing else handed back. -/
theorem CallsA.le {P : Program} {f : FuncId} {args : List V} {hin : Heap} {x : LV} (h : CallsA P f args hin fun r ho => ho = [] ∧ LeLV r x) : CallsA P f args hin fun r ho => ho = [] ∧ r = x :=
  h.res fun r ho ⟨h1, h2⟩ => ⟨x, h2, h1, rfl⟩
theorem wrap2 {n : Int} (h2 : 2 ≤ n) (h4 : n ≤ 4) : IntKind.i64.wrap (2 * n) = 2 * n := wrap_id (by omega) (by omega)
theorem lineCell_w {n line : Int} {k : Nat} (h : lineOk n line = true) (hk : k < n.toNat) :
    (line < n → IntKind.i64.wrap (IntKind.i64.wrap (line * n) + k) = lineCell n line k) ∧ (¬ line < n → IntKind.i64.wrap (IntKind.i64.wrap (IntKind.i64.wrap (k * n) + line) - n) = lineCell n line k) := by
  obtain ⟨h1, h2, h3, h4⟩ := lineOk_iff.1 h
  have : n = 2 ∨ n = 3 ∨ n = 4 := by omega
  unfold lineCell
  refine ⟨fun hl => ?_, fun hl => ?_⟩
  · rw [if_pos hl]
    rcases this with rfl | rfl | rfl <;> (rw [wrap_id (n := line * _) (by omega) (by omega), wrap_id (by omega) (by omega)])
  · rw [if_neg hl]
    rcases this with rfl | rfl | rfl <;> (rw [wrap_id (n := (k : Int) * _) (by omega) (by omega), wrap_id (n := _ + line) (by omega) (by omega), wrap_id (by omega) (by omega)])
def lcs (n line : Int) (k : Nat) : List Int := (List.range k).map fun (k : Nat) => lineCell n line k
theorem lcs_succ (n line : Int) (k : Nat) : lcs n line (k + 1) = lcs n line k ++ [lineCell n line k] := by simp [lcs, List.range_succ]
@[simp] theorem lcs_len (n line : Int) (k : Nat) : (lcs n line k).length = k := by simp [lcs]
@[simp] theorem lcs_zero (n line : Int) : lcs n line 0 = [] := rfl
theorem c_specLineCells (n line : Int) : CallsA Try.prog 161 [.c (.int .i64 (n)), .c (.int .i64 (line))] [] fun r ho => ho = [] ∧ r = .v (.c (.dsl true (.ints .i64 (lineCells n line)))) := by
  refine CallsA.of (tv := tyOf Try.prog) (fn := Try.f161) prg.tv Try.func161 rfl rfl (by simp) ?_
  refine WP.seq ?_
  refine WP.regN prg (by kernel_rfl) ?_ -- region 0
  refine WN.op prg (by simp) (by simp; rfl) (by simp) ?_
  refine WN.keep [0, 1] ?_
  refine WP.seq ?_
  refine WP.regN prg (by kernel_rfl) ?_ -- region 1
  refine WN.op prg (by simp) (by simp; rfl) (by simp) ?_
  refine WN.op prg (by simp) (by simp; rfl) (by simp) ?_
  refine WN.keep [0, 1, 5] ?_
  refine WP.seq ?_
  refine WP.seq ?_
  refine WP.regN prg (by kernel_rfl) ?_ -- region 2
  refine WN.op prg (by simp) (by simp; rfl) (by simp) ?_
  refine WN.keep [0, 1, 5, 6] ?_
  refine WP.block ?_
  refine WP.loopU ((if lineOk n line then n.toNat else 0)) (fun k => [(5, .v (.c (.osl 56 k 0 (k)))), (6, .v (.c (.int .i64 (k))))]) (fun k => [(56, .arr k true (.ints .i64 (lcs n line k)))]) (fun k => True) (fun k => by simp [putAll]; rfl) (fun k => by simp; rfl) (by simp) (by simp) (by simp) ?_
  intro k hk _
  refine WP.seq ?_
  refine WP.seq ?_
  refine WP.regN prg (by kernel_rfl) ?_ -- region 3
  refine WN.op prg (by simp) (by simp; rfl) (by simp) ?_
  refine WN.op prg (by simp) (by simp; rfl) (by simp) ?_
  refine WN.op prg (by simp) (by simp; rfl) (by simp) ?_
  refine WN.op prg (by simp) (by simp; rfl) (by simp) ?_
  apply WN.join (t := 14) 3 11
  · first | rfl | (simp; rfl)
  · intro hg11
    refine WN.op prg (by simp) (by simp; rfl) (by simp) ?_
    refine WN.call prg [] [] (by simp) rfl (by simp; rfl) (by simp) (CallsA.at (by simp) (by simp) (c_l1In n 2 4)) ?_
    rintro _ _ ⟨rfl, rfl⟩
    refine ⟨_, by simp; rfl, ?_⟩
    refine WN.op prg (by simp) (by simp; rfl) (by simp) ?_
    exact WN.keep [14, 0, 1, 5, 6, 16, 17, 18, 19, 20] rfl
  · intro hg11
    refine WN.skip prg (by simp) ?_
    refine WN.skip prg (by simp) ?_
    refine WN.op prg (by simp) (by simp; rfl) (by simp) ?_
    exact WN.keep [14, 0, 1, 5, 6, 16, 17, 18, 19, 20] rfl
  refine WN.op prg (by simp) (by simp; rfl) (by simp) ?_
  apply WN.join (t := 21) 6 15
  · first | rfl | (simp; rfl)
  · intro hg15
    refine WN.op prg (by simp) (by simp; rfl) (by simp) ?_
    refine WN.op prg (by simp) (by simp; rfl) (by simp) ?_
    refine WN.op prg (by simp) (by simp; rfl) (by simp) ?_
    refine WN.op prg (by simp) (by simp; rfl) (by simp) ?_
    refine WN.call prg [] [] (by simp) rfl (by simp; rfl) (by simp) (CallsA.at (by simp) (by simp) (c_l1In line 0 (IntKind.i64.wrap (IntKind.i64.wrap (2 * n) - 1)))) ?_
    rintro _ _ ⟨rfl, rfl⟩
    refine ⟨_, by simp; rfl, ?_⟩
    refine WN.op prg (by simp) (by simp; rfl) (by simp) ?_
    exact WN.keep [21, 0, 1, 5, 6] rfl
  · intro hg15
    refine WN.skip prg (by simp) ?_
    refine WN.skip prg (by simp) ?_
    refine WN.skip prg (by simp) ?_
    refine WN.skip prg (by simp) ?_
    refine WN.skip prg (by simp) ?_
    refine WN.op prg (by simp) (by simp; rfl) (by simp) ?_
    exact WN.keep [21, 0, 1, 5, 6] rfl
  refine WN.keep [0, 1, 5, 6, 21] ?_
  refine WP.cond (by first | rfl | (simp; rfl)) (fun hb => ?_) (fun hb => ?_)
  · try simp at hb
    refine WP.skip ?_
    refine WP.seq ?_
    refine WP.block ?_
    refine WP.seq ?_
    refine WP.regN prg (by kernel_rfl) ?_ -- region 5
    refine WN.op prg (by simp) (by simp; rfl) (by simp) ?_
    refine WN.op prg (by simp) (by simp; rfl) (by simp) ?_
    refine WN.op prg (by simp) (by simp; rfl) (by simp) ?_
    refine WN.keep [0, 1, 5, 6, 26] ?_
    refine WP.cond (by first | rfl | (simp; rfl)) (fun hb => ?_) (fun hb => ?_)
    · try simp at hb
      refine WP.regN prg (by kernel_rfl) ?_ -- region 6
      refine WN.op prg (by simp) (by simp; rfl) (by simp) ?_
      refine WN.op prg (by simp) (by simp; rfl) (by simp) ?_
      refine WN.op prg (by simp) (by simp; rfl) (by simp) ?_
      refine WN.op prg (by simp) (by simp; rfl) (by simp) ?_
      refine WN.op prg (by simp) (by simp; rfl) (by simp) ?_
      refine WN.op prg (by simp) (by simp; rfl) (by simp) ?_
      refine WN.op prg (by simp) (by simp; rfl) (by simp) ?_
      refine WN.op prg (by simp) (by simp; rfl) (by first | (simp; done) | (simp; omega)) ?_
      refine WN.op prg (by simp) (by simp; rfl) (by simp) ?_
      refine WN.keep [0, 1, 5, 6] ?_
      refine WP.regN prg (by kernel_rfl) ?_ -- region 4
      refine WN.tidy [0, 1, 5, 6] [56] (by simp; rfl) ?_
      refine WN.op prg (by simp) (by simp; rfl) (by simp) ?_
      refine WN.op prg (by simp) (by simp; rfl) (by simp) ?_
      refine WN.op prg (by simp) (by simp; rfl) (by simp) ?_
      refine WN.keep [0, 1, 5, 6] ?_
      have hL : lineOk n line = true := by
        obtain ⟨⟨a, b, c⟩, d, e⟩ := ‹(↑k < n ∧ 2 ≤ n ∧ n ≤ 4) ∧ 0 ≤ line ∧ line ≤ _›
        rw [wrap2 b c, wrap_id (by omega) (by omega)] at e
        exact lineOk_iff.2 ⟨b, c, d, by omega⟩
      have hkn : k < n.toNat := by omega
      obtain ⟨hw1, hw2⟩ := lineCell_w hL hkn
      refine ⟨by rw [if_pos hL]; omega, trivial, ?_⟩
      simp [hw1 ‹_›, lcs_succ, wrap_id (n := (k : Int) + 1) (by omega) (by omega)]
    · try simp at hb
      refine WP.regN prg (by kernel_rfl) ?_ -- region 7
      refine WN.op prg (by simp) (by simp; rfl) (by simp) ?_
      refine WN.op prg (by simp) (by simp; rfl) (by simp) ?_
      refine WN.op prg (by simp) (by simp; rfl) (by simp) ?_
      refine WN.op prg (by simp) (by simp; rfl) (by simp) ?_
      refine WN.op prg (by simp) (by simp; rfl) (by simp) ?_
      refine WN.op prg (by simp) (by simp; rfl) (by simp) ?_
      refine WN.op prg (by simp) (by simp; rfl) (by simp) ?_
      refine WN.op prg (by simp) (by simp; rfl) (by simp) ?_
      refine WN.op prg (by simp) (by simp; rfl) (by simp) ?_
      refine WN.op prg (by simp) (by simp; rfl) (by first | (simp; done) | (simp; omega)) ?_
      refine WN.op prg (by simp) (by simp; rfl) (by simp) ?_
      refine WN.keep [0, 1, 5, 6] ?_
      refine WP.regN prg (by kernel_rfl) ?_ -- region 4
      refine WN.tidy [0, 1, 5, 6] [56] (by simp; rfl) ?_
      refine WN.op prg (by simp) (by simp; rfl) (by simp) ?_
      refine WN.op prg (by simp) (by simp; rfl) (by simp) ?_
      refine WN.op prg (by simp) (by simp; rfl) (by simp) ?_
      refine WN.keep [0, 1, 5, 6] ?_
      have hL : lineOk n line = true := by
        obtain ⟨⟨a, b, c⟩, d, e⟩ := ‹(↑k < n ∧ 2 ≤ n ∧ n ≤ 4) ∧ 0 ≤ line ∧ line ≤ _›
        rw [wrap2 b c, wrap_id (by omega) (by omega)] at e
        exact lineOk_iff.2 ⟨b, c, d, by omega⟩
      have hkn : k < n.toNat := by omega
      obtain ⟨hw1, hw2⟩ := lineCell_w hL hkn
      refine ⟨by rw [if_pos hL]; omega, trivial, ?_⟩
      simp [hw2 (by omega), lcs_succ, wrap_id (n := (k : Int) + 1) (by omega) (by omega)]
  · try simp at hb
    refine WP.exit ?_
    refine WP.seq ?_
    refine WP.regN prg (by kernel_rfl) ?_ -- region 8
    refine WN.op prg (by simp) (by simp; rfl) (by simp) ?_
    refine WN.op prg (by simp) (by simp; rfl) (by simp) ?_
    refine WN.keep [4] ?_
    refine WP.ret (DoneQ.ret [] (by simp; rfl) (by simp; rfl) ?_)
    refine ⟨rfl, ?_⟩
    have hkk : lineCells n line = lcs n line k := by
      unfold lineCells
      split
      · rename_i hL
        rw [if_pos hL] at hk
        obtain ⟨a, b, c, d⟩ := lineOk_iff.1 hL
        have : k = n.toNat := by
          have h1 := wrap2 a b
          have h2 : IntKind.i64.wrap (2 * n - 1) = 2 * n - 1 := wrap_id (by omega) (by omega)
          rw [h1, h2] at hb
          by_cases hkn : (k : Int) < n
          · have := hb hkn a b c; omega
          · omega
        rw [this]
        rfl
      · rename_i hL
        rw [if_neg hL] at hk
        have : k = 0 := by omega
        subst this
        rfl
    simp [hkk, List.take_of_length_le]
theorem w_implLineCells (n line : Int) : CallsA Try.prog 163 [.c (.int .i64 (n)), .c (.int .i64 (line))] [] fun r ho => ho = [] ∧ LeLV r (.v (.c (.dsl true (.ints .i64 (lineCells n line))))) := by
  refine CallsA.of (tv := tyOf Try.prog) (fn := Try.f163) prg.tv Try.func163 rfl rfl (by simp) ?_
  refine WP.seq ?_
  refine WP.regN prg (by kernel_rfl) ?_ -- region 0
  refine WN.op prg (by simp) (by simp; rfl) (by simp) ?_
  refine WN.keep [0, 1] ?_
  refine WP.seq ?_
  refine WP.seq ?_
  refine WP.regN prg (by kernel_rfl) ?_ -- region 1
  refine WN.op prg (by simp) (by simp; rfl) (by simp) ?_
  refine WN.call prg [] [] (by simp) rfl (by simp; rfl) (by simp) (CallsA.at (by simp) (by simp) (c_sizeOk n)) ?_
  rintro _ _ ⟨rfl, rfl⟩
  refine ⟨_, by simp; rfl, ?_⟩
  refine WN.op prg (by simp) (by simp; rfl) (by simp) ?_
  refine WN.op prg (by simp) (by simp; rfl) (by simp) ?_
  apply WN.join (t := 13) 3 10
  · first | rfl | (simp; rfl)
  · intro hg10
    refine WN.skip prg (by simp) ?_
    refine WN.skip prg (by simp) ?_
    refine WN.op prg (by simp) (by simp; rfl) (by simp) ?_
    exact WN.keep [13, 0, 1, 15, 16, 17, 18] rfl
  · intro hg10
    refine WN.op prg (by simp) (by simp; rfl) (by simp) ?_
    refine WN.op prg (by simp) (by simp; rfl) (by simp) ?_
    refine WN.op prg (by simp) (by simp; rfl) (by simp) ?_
    exact WN.keep [13, 0, 1, 15, 16, 17, 18] rfl
  refine WN.op prg (by simp) (by simp; rfl) (by simp) ?_
  apply WN.join (t := 19) 5 14
  · first | rfl | (simp; rfl)
  · intro hg14
    refine WN.skip prg (by simp) ?_
    refine WN.skip prg (by simp) ?_
    refine WN.skip prg (by simp) ?_
    refine WN.skip prg (by simp) ?_
    refine WN.op prg (by simp) (by simp; rfl) (by simp) ?_
    exact WN.keep [19, 0, 1] rfl
  · intro hg14
    refine WN.op prg (by simp) (by simp; rfl) (by simp) ?_
    refine WN.op prg (by simp) (by simp; rfl) (by simp) ?_
    refine WN.op prg (by simp) (by simp; rfl) (by simp) ?_
    refine WN.op prg (by simp) (by simp; rfl) (by simp) ?_
    refine WN.op prg (by simp) (by simp; rfl) (by simp) ?_
    exact WN.keep [19, 0, 1] rfl
  refine WN.keep [0, 1, 19] ?_
  refine WP.cond (by first | rfl | (simp; rfl)) (fun hb => ?_) (fun hb => ?_)
  · try simp at hb
    refine WP.seq ?_
    refine WP.regN prg (by kernel_rfl) ?_ -- region 2
    refine WN.op prg (by simp) (by simp; rfl) (by simp) ?_
    refine WN.keep [4] ?_
    refine WP.ret (DoneQ.ret [] (by simp; rfl) (by simp; rfl) ?_)
    refine ⟨rfl, ?_⟩
    have : lineOk n line = false := by
      rw [Bool.eq_false_iff]
      intro hL
      obtain ⟨a, b, c, d⟩ := lineOk_iff.1 hL
      rw [wrap2 a b] at hb
      omega
    simp [lineCells, this]
    exact leNil _
  · try simp at hb
    refine WP.skip ?_
    refine WP.seq ?_
    refine WP.regN prg (by kernel_rfl) ?_ -- region 3
    refine WN.op prg (by simp) (by simp; rfl) (by simp) ?_
    refine WN.op prg (by simp) (by simp; rfl) (by first | (simp; done) | (simp; omega)) ?_
    refine WN.op prg (by simp) (by simp; rfl) (by simp) ?_
    refine WN.keep [0, 1, 5] ?_
    refine WP.seq ?_
    refine WP.seq ?_
    refine WP.regN prg (by kernel_rfl) ?_ -- region 4
    refine WN.op prg (by simp) (by simp; rfl) (by simp) ?_
    refine WN.op prg (by simp) (by simp; rfl) (by simp) ?_
    refine WN.keep [0, 1, 5, 22, 23] ?_
    refine WP.block ?_
    have hL : lineOk n line = true := by
      obtain ⟨⟨⟨a, b⟩, c⟩, d⟩ := hb
      rw [wrap2 a b] at d
      exact lineOk_iff.2 ⟨a, b, c, d⟩
    clear hb
    obtain ⟨h2, h4, h0, hl⟩ := lineOk_iff.1 hL
    refine WP.loopU (n.toNat) (fun k => [(5, .v (.c (.osl 168 k 0 (k)))), (23, .v (.c (.int .i64 (k))))]) (fun k => [(168, .arr k true (.ints .i64 (lcs n line k)))]) (fun k => True) (fun k => by simp [putAll]; rfl) (fun k => by simp; rfl) (by simp) (by simp) (by simp) ?_
    intro k hk _
    refine WP.seq ?_
    refine WP.regN prg (by kernel_rfl) ?_ -- region 5
    refine WN.op prg (by simp) (by simp; rfl) (by simp) ?_
    refine WN.keep [0, 1, 5, 22, 23, 24] ?_
    refine WP.seq ?_
    refine WP.cond (by first | rfl | (simp; rfl)) (fun hb => ?_) (fun hb => ?_)
    · try simp at hb
      refine WP.skip ?_
      refine WP.seq ?_
      refine WP.block ?_
      refine WP.seq ?_
      refine WP.regN prg (by kernel_rfl) ?_ -- region 6
      refine WN.op prg (by simp) (by simp; rfl) (by simp) ?_
      refine WN.op prg (by simp) (by simp; rfl) (by simp) ?_
      refine WN.keep [0, 1, 5, 6, 22, 23] ?_
      refine WP.seq ?_
      refine WP.regN prg (by kernel_rfl) ?_ -- region 7
      refine WN.op prg (by simp) (by simp; rfl) (by simp) ?_
      refine WN.op prg (by simp) (by simp; rfl) (by simp) ?_
      refine WN.op prg (by simp) (by simp; rfl) (by simp) ?_
      refine WN.keep [0, 1, 5, 6, 22, 23, 28] ?_
      refine WP.cond (by first | rfl | (simp; rfl)) (fun hb => ?_) (fun hb => ?_)
      · try simp at hb
        refine WP.regN prg (by kernel_rfl) ?_ -- region 8
        refine WN.op prg (by simp) (by simp; rfl) (by simp) ?_
        refine WN.op prg (by simp) (by simp; rfl) (by simp) ?_
        refine WN.op prg (by simp) (by simp; rfl) (by simp) ?_
        refine WN.op prg (by simp) (by simp; rfl) (by simp) ?_
        refine WN.op prg (by simp) (by simp; rfl) (by simp) ?_
        refine WN.op prg (by simp) (by simp; rfl) (by simp) ?_
        refine WN.op prg (by simp) (by simp; rfl) (by simp) ?_
        refine WN.op prg (by simp) (by simp; rfl) (by first | (simp; done) | (simp; omega)) ?_
        refine WN.op prg (by simp) (by simp; rfl) (by simp) ?_
        refine WN.keep [0, 1, 5, 22, 23] ?_
        refine WP.regN prg (by kernel_rfl) ?_ -- region 10
        refine WN.tidy [0, 1, 5, 22, 23] [168] (by simp; rfl) ?_
        refine WN.op prg (by simp) (by simp; rfl) (by simp) ?_
        refine WN.op prg (by simp) (by simp; rfl) (by simp) ?_
        refine WN.keep [0, 1, 5, 22, 23] ?_
        have hkn : k < n.toNat := by omega
        obtain ⟨hw1, hw2⟩ := lineCell_w hL hkn
        refine ⟨by omega, trivial, ?_⟩
        simp [hw1 ‹_›, lcs_succ, wrap_id (n := (k : Int) + 1) (by omega) (by omega)]
      · try simp at hb
        refine WP.regN prg (by kernel_rfl) ?_ -- region 9
        refine WN.op prg (by simp) (by simp; rfl) (by simp) ?_
        refine WN.op prg (by simp) (by simp; rfl) (by simp) ?_
        refine WN.op prg (by simp) (by simp; rfl) (by simp) ?_
        refine WN.op prg (by simp) (by simp; rfl) (by simp) ?_
        refine WN.op prg (by simp) (by simp; rfl) (by simp) ?_
        refine WN.op prg (by simp) (by simp; rfl) (by simp) ?_
        refine WN.op prg (by simp) (by simp; rfl) (by simp) ?_
        refine WN.op prg (by simp) (by simp; rfl) (by simp) ?_
        refine WN.op prg (by simp) (by simp; rfl) (by simp) ?_
        refine WN.op prg (by simp) (by simp; rfl) (by first | (simp; done) | (simp; omega)) ?_
        refine WN.op prg (by simp) (by simp; rfl) (by simp) ?_
        refine WN.keep [0, 1, 5, 22, 23] ?_
        refine WP.regN prg (by kernel_rfl) ?_ -- region 10
        refine WN.tidy [0, 1, 5, 22, 23] [168] (by simp; rfl) ?_
        refine WN.op prg (by simp) (by simp; rfl) (by simp) ?_
        refine WN.op prg (by simp) (by simp; rfl) (by simp) ?_
        refine WN.keep [0, 1, 5, 22, 23] ?_
        have hkn : k < n.toNat := by omega
        obtain ⟨hw1, hw2⟩ := lineCell_w hL hkn
        refine ⟨by omega, trivial, ?_⟩
        simp [hw2 (by omega), lcs_succ, wrap_id (n := (k : Int) + 1) (by omega) (by omega)]
    · try simp at hb
      refine WP.exit ?_
      refine WP.seq ?_
      refine WP.regN prg (by kernel_rfl) ?_ -- region 11
      refine WN.op prg (by simp) (by simp; rfl) (by simp) ?_
      refine WN.op prg (by simp) (by simp; rfl) (by simp) ?_
      refine WN.keep [4] ?_
      refine WP.ret (DoneQ.ret [] (by simp; rfl) (by simp; rfl) ?_)
      have : k = n.toNat := by omega
      refine ⟨rfl, ?_⟩
      have hkk : lineCells n line = lcs n line k := by simp [lineCells, hL, lcs, this]
      simp [hkk, List.take_of_length_le]
      exact LeLV.refl _
theorem c_implLineCells (n line : Int) : CallsA Try.prog 163 [.c (.int .i64 (n)), .c (.int .i64 (line))] [] fun r ho => ho = [] ∧ r = .v (.c (.dsl true (.ints .i64 (lineCells n line)))) := CallsA.le (w_implLineCells n line)
end Go.Proofs.Ytaicenafkjbnoaa

