/- Contracts: filled cells, games. -/
import Derived.Test.YtaicenafkjbnoaaC2
set_option linter.unusedVariables false
set_option linter.unusedSimpArgs false
namespace Go.Proofs.Ytaicenafkjbnoaa
open Go.AM
set_option maxRecDepth 100000

theorem filled_step (g : List Int) (k : Nat) : (filledN (g.take (k + 1)) : Int) = if pos (g[k]?.getD 0) = true then (filledN (g.take k) : Int) + 1 else filledN (g.take k) := by
  unfold filledN
  rw [List.take_add_one, List.countP_append]
  cases h : g[k]? with
  | none => simp [pos]
  | some x =>
    simp only [Option.toList_some, Option.getD_some, List.countP_singleton]
    split <;> simp
theorem filled_le (g : List Int) (k : Nat) : filledN (g.take k) ≤ g.length := by
  unfold filledN
  exact Nat.le_trans List.countP_le_length (by simp; omega)
theorem c_implGridFilled (g : List Int) (n : Int) (hl : g.length ≤ 140737488355328) : CallsA Try.prog 34 [.c (.dsl false (.ints .i64 g)), .c (.int .i64 n)] [] fun r ho => ho = [] ∧ r = .v (.c (.int .i64 (gridFilled g n))) := by
  refine CallsA.of (tv := tyOf Try.prog) (fn := Try.f34) prg.tv Try.func34 rfl rfl (by simp) ?_
  refine WP.seq ?_
  refine WP.regN prg (by kernel_rfl) ?_ -- region 0
  refine WN.op prg (by simp) (by simp; rfl) (by simp) ?_
  refine WN.keep [0, 1] ?_
  refine WP.seq ?_
  refine WP.seq ?_
  refine WP.regN prg (by kernel_rfl) ?_ -- region 1
  refine WN.op prg (by simp) (by simp; rfl) (by simp) ?_
  refine WN.op prg (by simp) (by simp; rfl) (by simp) ?_
  refine WN.call prg [] [] (by simp) rfl (by simp; rfl) (by simp) (CallsA.at (by simp) (by simp) (c_implGridValid g n hl)) ?_
  rintro _ _ ⟨rfl, rfl⟩
  refine ⟨_, by simp; rfl, ?_⟩
  refine WN.op prg (by simp) (by simp; rfl) (by simp) ?_
  refine WN.keep [0, 11] ?_
  refine WP.cond (by first | rfl | (simp; rfl)) (fun hb => ?_) (fun hb => ?_)
  · try simp at hb
    refine WP.seq ?_
    refine WP.regN prg (by kernel_rfl) ?_ -- region 2
    refine WN.op prg (by simp) (by simp; rfl) (by simp) ?_
    refine WN.keep [4] ?_
    refine WP.ret (DoneQ.ret [] (by simp; rfl) (by simp; rfl) ?_)
    exact ⟨rfl, by simp [gridFilled, hb]⟩
  · try simp at hb
    refine WP.skip ?_
    refine WP.seq ?_
    refine WP.regN prg (by kernel_rfl) ?_ -- region 3
    refine WN.op prg (by simp) (by simp; rfl) (by simp) ?_
    refine WN.keep [0, 5] ?_
    refine WP.seq ?_
    refine WP.seq ?_
    refine WP.regN prg (by kernel_rfl) ?_ -- region 4
    refine WN.op prg (by simp) (by simp; rfl) (by simp) ?_
    refine WN.op prg (by simp) (by simp; rfl) (by simp) ?_
    refine WN.op prg (by simp) (by simp; rfl) (by simp) ?_
    refine WN.keep [5, 12, 13, 14] ?_
    refine WP.block ?_
    have hgo := hb
    refine WP.loop (fun i s => ∃ k, i = g.length - k ∧ k ≤ g.length ∧ s = ⟨[(5, .v (.c (.int .i64 (filledN (g.take k) : Nat)))), (12, .v (.c (.dsl false (.ints .i64 g)))), (13, .v (.c (.int .i64 g.length))), (14, .v (.c (.int .i64 (k : Nat))))], []⟩) g.length ⟨0, by simp [filledN]⟩ ?_
    rintro _ _ ⟨k, rfl, hk, rfl⟩
    refine WP.seq ?_
    refine WP.regN prg (by kernel_rfl) ?_ -- region 5
    refine WN.op prg (by simp) (by simp; rfl) (by simp) ?_
    refine WN.keep [5, 12, 13, 14, 15] ?_
    refine WP.seq ?_
    refine WP.cond (by first | rfl | (simp; rfl)) (fun hb => ?_) (fun hb => ?_)
    · try simp at hb
      refine WP.skip ?_
      refine WP.seq ?_
      refine WP.block ?_
      refine WP.seq ?_
      refine WP.regN prg (by kernel_rfl) ?_ -- region 6
      refine WN.op prg (by simp) (by simp; rfl) (by first | (simp; done) | (simp; omega)) ?_
      refine WN.op prg (by simp) (by simp; rfl) (by first | (simp; done) | (simp; omega)) ?_
      refine WN.op prg (by simp) (by simp; rfl) (by simp) ?_
      refine WN.keep [5, 7, 12, 13, 14] ?_
      refine WP.seq ?_
      refine WP.regN prg (by kernel_rfl) ?_ -- region 7
      refine WN.op prg (by simp) (by simp; rfl) (by simp) ?_
      refine WN.op prg (by simp) (by simp; rfl) (by simp) ?_
      refine WN.keep [5, 12, 13, 14, 19] ?_
      apply WP.join (t := 5)
      · first | rfl | (simp; rfl)
      · intro hb
        refine WP.regN prg (by kernel_rfl) ?_ -- region 8
        refine WN.op prg (by simp) (by simp; rfl) (by simp) ?_
        refine WN.op prg (by simp) (by simp; rfl) (by simp) ?_
        refine WN.op prg (by simp) (by simp; rfl) (by simp) ?_
        exact WN.keep [5, 12, 13, 14] rfl
      · intro hb
        exact WP.keep [5, 12, 13, 14] (WP.skip rfl)
      refine WP.regN prg (by kernel_rfl) ?_ -- region 9
      refine WN.op prg (by simp) (by simp; rfl) (by simp) ?_
      refine WN.op prg (by simp) (by simp; rfl) (by simp) ?_
      refine WN.keep [5, 12, 13, 14] ?_
      have hfl := filled_le g k
      refine ⟨g.length - (k + 1), by omega, k + 1, rfl, by omega, ?_⟩
      rw [filled_step, wrap_id (n := (k : Int) + 1) (by omega) (by omega), wrap_id (n := (filledN (g.take k) : Int) + 1) (by omega) (by omega)]
      simp [pos]
    · try simp at hb
      refine WP.exit ?_
      refine WP.seq ?_
      refine WP.regN prg (by kernel_rfl) ?_ -- region 10
      refine WN.op prg (by simp) (by simp; rfl) (by simp) ?_
      refine WN.op prg (by simp) (by simp; rfl) (by simp) ?_
      refine WN.keep [4] ?_
      refine WP.ret (DoneQ.ret [] (by simp; rfl) (by simp; rfl) ?_)
      have hkk : k = g.length := by omega
      subst hkk
      exact ⟨rfl, by simp [gridFilled, hgo]⟩
theorem c_specGridFilled (g : List Int) (n : Int) (hl : g.length ≤ 140737488355328) : CallsA Try.prog 169 [.c (.dsl false (.ints .i64 g)), .c (.int .i64 n)] [] fun r ho => ho = [] ∧ r = .v (.c (.int .i64 (gridFilled g n))) := by
  refine CallsA.of (tv := tyOf Try.prog) (fn := Try.f169) prg.tv Try.func169 rfl rfl (by simp) ?_
  refine WP.seq ?_
  refine WP.regN prg (by kernel_rfl) ?_ -- region 0
  refine WN.op prg (by simp) (by simp; rfl) (by simp) ?_
  refine WN.keep [0, 1] ?_
  refine WP.seq ?_
  refine WP.seq ?_
  refine WP.regN prg (by kernel_rfl) ?_ -- region 1
  refine WN.op prg (by simp) (by simp; rfl) (by simp) ?_
  refine WN.op prg (by simp) (by simp; rfl) (by simp) ?_
  refine WN.call prg [] [] (by simp) rfl (by simp; rfl) (by simp) (CallsA.at (by simp) (by simp) (c_specGridValid g n hl)) ?_
  rintro _ _ ⟨rfl, rfl⟩
  refine ⟨_, by simp; rfl, ?_⟩
  refine WN.op prg (by simp) (by simp; rfl) (by simp) ?_
  refine WN.keep [0, 10] ?_
  refine WP.cond (by first | rfl | (simp; rfl)) (fun hb => ?_) (fun hb => ?_)
  · try simp at hb
    refine WP.seq ?_
    refine WP.regN prg (by kernel_rfl) ?_ -- region 2
    refine WN.op prg (by simp) (by simp; rfl) (by simp) ?_
    refine WN.keep [4] ?_
    refine WP.ret (DoneQ.ret [] (by simp; rfl) (by simp; rfl) ?_)
    exact ⟨rfl, by simp [gridFilled, hb]⟩
  · try simp at hb
    refine WP.skip ?_
    refine WP.seq ?_
    refine WP.regN prg (by kernel_rfl) ?_ -- region 3
    refine WN.op prg (by simp) (by simp; rfl) (by simp) ?_
    refine WN.keep [0, 5] ?_
    refine WP.seq ?_
    refine WP.seq ?_
    refine WP.regN prg (by kernel_rfl) ?_ -- region 4
    refine WN.op prg (by simp) (by simp; rfl) (by simp) ?_
    refine WN.keep [0, 5, 6] ?_
    refine WP.block ?_
    have hgo := hb
    refine WP.loop (fun i s => ∃ k, i = g.length - k ∧ k ≤ g.length ∧ s = ⟨[(0, .v (.c (.dsl false (.ints .i64 g)))), (5, .v (.c (.int .i64 (filledN (g.take k) : Nat)))), (6, .v (.c (.int .i64 (k : Nat))))], []⟩) g.length ⟨0, by simp [filledN]⟩ ?_
    rintro _ _ ⟨k, rfl, hk, rfl⟩
    refine WP.seq ?_
    refine WP.seq ?_
    refine WP.regN prg (by kernel_rfl) ?_ -- region 5
    refine WN.op prg (by simp) (by simp; rfl) (by simp) ?_
    refine WN.op prg (by simp) (by simp; rfl) (by simp) ?_
    refine WN.op prg (by simp) (by simp; rfl) (by simp) ?_
    refine WN.op prg (by simp) (by simp; rfl) (by simp) ?_
    refine WN.keep [0, 5, 6, 14] ?_
    refine WP.cond (by first | rfl | (simp; rfl)) (fun hb => ?_) (fun hb => ?_)
    · try simp at hb
      refine WP.skip ?_
      refine WP.seq ?_
      refine WP.block ?_
      refine WP.seq ?_
      refine WP.regN prg (by kernel_rfl) ?_ -- region 7
      refine WN.op prg (by simp) (by simp; rfl) (by simp) ?_
      refine WN.op prg (by simp) (by simp; rfl) (by simp) ?_
      refine WN.op prg (by simp) (by simp; rfl) (by first | (simp; done) | (simp; omega)) ?_
      refine WN.op prg (by simp) (by simp; rfl) (by first | (simp; done) | (simp; omega)) ?_
      refine WN.op prg (by simp) (by simp; rfl) (by simp) ?_
      refine WN.keep [0, 5, 6, 21] ?_
      apply WP.join (t := 5)
      · first | rfl | (simp; rfl)
      · intro hb
        refine WP.regN prg (by kernel_rfl) ?_ -- region 8
        refine WN.op prg (by simp) (by simp; rfl) (by simp) ?_
        refine WN.op prg (by simp) (by simp; rfl) (by simp) ?_
        refine WN.op prg (by simp) (by simp; rfl) (by simp) ?_
        exact WN.keep [5, 0, 6] rfl
      · intro hb
        exact WP.keep [5, 0, 6] (WP.skip rfl)
      refine WP.regN prg (by kernel_rfl) ?_ -- region 6
      refine WN.op prg (by simp) (by simp; rfl) (by simp) ?_
      refine WN.op prg (by simp) (by simp; rfl) (by simp) ?_
      refine WN.op prg (by simp) (by simp; rfl) (by simp) ?_
      refine WN.keep [0, 5, 6] ?_
      have hfl := filled_le g k
      refine ⟨g.length - (k + 1), by omega, k + 1, rfl, by omega, ?_⟩
      rw [filled_step, wrap_id (n := (k : Int) + 1) (by omega) (by omega), wrap_id (n := (filledN (g.take k) : Int) + 1) (by omega) (by omega)]
      simp [pos]
    · try simp at hb
      refine WP.exit ?_
      refine WP.seq ?_
      refine WP.regN prg (by kernel_rfl) ?_ -- region 9
      refine WN.op prg (by simp) (by simp; rfl) (by simp) ?_
      refine WN.op prg (by simp) (by simp; rfl) (by simp) ?_
      refine WN.keep [4] ?_
      refine WP.ret (DoneQ.ret [] (by simp; rfl) (by simp; rfl) ?_)
      have hkk : k = g.length := by omega
      subst hkk
      exact ⟨rfl, by simp [gridFilled, hgo]⟩
end Go.Proofs.Ytaicenafkjbnoaa

