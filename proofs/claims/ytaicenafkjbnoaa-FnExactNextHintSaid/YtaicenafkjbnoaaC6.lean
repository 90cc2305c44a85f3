/- Contracts: masks and values. -/
import Derived.Test.YtaicenafkjbnoaaC5
set_option linter.unusedVariables false
set_option linter.unusedSimpArgs false
namespace Go.Proofs.Ytaicenafkjbnoaa
open Go Go.AM
set_option maxRecDepth 100000

theorem allV_w {n : Int} (h0 : 0 ≤ n) (h : n < 10) : IntKind.i64.wrap (IntKind.i64.wrap (2 ^ (min (IntKind.i64.wrap (n + 1)).toNat 64)) - 2) = allV n :=
  fin_all (p := fun n => IntKind.i64.wrap (IntKind.i64.wrap (2 ^ (min (IntKind.i64.wrap (n + 1)).toNat 64)) - 2) = allV n) (N := 10) (by decide +kernel) h0 h
theorem c_allValues (n : Int) (h0 : 0 ≤ n) (h : n < 10) : CallsA Try.prog 134 [.c (.int .i64 (n))] [] fun r ho => ho = [] ∧ r = .v (.c (.int .i64 (allV n))) := by
  have hw : IntKind.i64.wrap (n + 1) = n + 1 := wrap_id (by omega) (by omega)
  have hv := allV_w h0 h
  refine CallsA.of (tv := tyOf Try.prog) (fn := Try.f134) prg.tv Try.func134 rfl rfl (by simp) ?_
  refine WP.seq ?_
  refine WP.regN prg (by kernel_rfl) ?_ -- region 0
  refine WN.op prg (by simp) (by simp; rfl) (by simp) ?_
  refine WN.keep [0] ?_
  refine WP.seq ?_
  refine WP.regN prg (by kernel_rfl) ?_ -- region 1
  refine WN.op prg (by simp) (by simp; rfl) (by simp) ?_
  refine WN.op prg (by simp) (by simp; rfl) (by simp) ?_
  refine WN.op prg (by simp) (by simp; rfl) (by first | (simp; done) | (simp; omega)) ?_
  refine WN.op prg (by simp) (by simp; rfl) (by simp) ?_
  refine WN.op prg (by simp) (by simp; rfl) (by simp) ?_
  refine WN.keep [2] ?_
  refine WP.ret (DoneQ.ret [] (by simp; rfl) (by simp; rfl) ?_)
  exact ⟨rfl, by simp [hv]⟩
def vlist (k : Nat) : List Int := (List.range k).map fun (i : Nat) => (i : Int) + 1
theorem vlist_succ (k : Nat) : vlist (k + 1) = vlist k ++ [(k : Int) + 1] := by simp [vlist, List.range_succ]
theorem onlyV_no {m : Int} (h : ∀ j : Nat, j < 4 → m ≠ one ((j : Int) + 1)) : onlyV m = 0 := by
  have h0 := h 0 (by omega)
  have h1 := h 1 (by omega)
  have h2 := h 2 (by omega)
  have h3 := h 3 (by omega)
  have e : one (((0 : Nat) : Int) + 1) = 2 ∧ one (((1 : Nat) : Int) + 1) = 4 ∧ one (((2 : Nat) : Int) + 1) = 8 ∧ one (((3 : Nat) : Int) + 1) = 16 := by decide
  rw [e.1] at h0
  rw [e.2.1] at h1
  rw [e.2.2.1] at h2
  rw [e.2.2.2] at h3
  simp [onlyV, h0, h1, h2, h3]
theorem onlyV_one {k : Nat} (h : k < 4) : onlyV (one ((k : Int) + 1)) = (k : Int) + 1 := by
  have : k = 0 ∨ k = 1 ∨ k = 2 ∨ k = 3 := by omega
  rcases this with rfl | rfl | rfl | rfl <;> decide
theorem c_onlyValue (m : Int) : CallsA Try.prog 93 [.c (.int .i64 (m))] [] fun r ho => ho = [] ∧ r = .v (.c (.int .i64 (onlyV m))) := by
  refine CallsA.of (tv := tyOf Try.prog) (fn := Try.f93) prg.tv Try.func93 rfl rfl (by simp) ?_
  refine WP.seq ?_
  refine WP.regN prg (by kernel_rfl) ?_ -- region 0
  refine WN.op prg (by simp) (by simp; rfl) (by simp) ?_
  refine WN.keep [0] ?_
  refine WP.seq ?_
  refine WP.seq ?_
  refine WP.regN prg (by kernel_rfl) ?_ -- region 1
  refine WN.op prg (by simp) (by simp; rfl) (by simp) ?_
  refine WN.keep [0, 3] ?_
  refine WP.block ?_
  refine WP.loopU (4) (fun k => [(3, .v (.c (.int .i64 ((k : Int) + 1))))]) (fun k => []) (fun k => (∀ j : Nat, j < k → m ≠ one ((j : Int) + 1))) (fun k => by simp [putAll]; rfl) (fun k => by simp; rfl) (by simp) (by simp) (by simp) ?_
  intro k hk hno
  refine WP.seq ?_
  refine WP.seq ?_
  refine WP.regN prg (by kernel_rfl) ?_ -- region 2
  refine WN.op prg (by simp) (by simp; rfl) (by simp) ?_
  refine WN.op prg (by simp) (by simp; rfl) (by simp) ?_
  refine WN.keep [0, 3, 5] ?_
  refine WP.cond (by first | rfl | (simp; rfl)) (fun hb => ?_) (fun hb => ?_)
  · try simp at hb
    refine WP.skip ?_
    refine WP.seq ?_
    refine WP.block ?_
    refine WP.seq ?_
    refine WP.regN prg (by kernel_rfl) ?_ -- region 4
    refine WN.op prg (by simp) (by simp; rfl) (by simp) ?_
    refine WN.op prg (by simp) (by simp; rfl) (by simp) ?_
    refine WN.op prg (by simp) (by simp; rfl) (by simp; omega) ?_
    refine WN.op prg (by simp) (by simp; rfl) (by simp) ?_
    refine WN.keep [0, 3, 11] ?_
    refine WP.cond (by first | rfl | (simp; rfl)) (fun hb => ?_) (fun hb => ?_)
    · try simp at hb
      refine WP.seq ?_
      refine WP.regN prg (by kernel_rfl) ?_ -- region 5
      refine WN.op prg (by simp) (by simp; rfl) (by simp) ?_
      refine WN.op prg (by simp) (by simp; rfl) (by simp) ?_
      refine WN.keep [2] ?_
      refine WP.ret (DoneQ.ret [] (by simp; rfl) (by simp; rfl) ?_)
      have e := shl_k (k := k) (by omega)
      rw [e] at hb
      rw [hb]
      exact ⟨rfl, by simp [onlyV_one (show k < 4 by omega)]⟩
    · try simp at hb
      refine WP.skip ?_
      refine WP.regN prg (by kernel_rfl) ?_ -- region 3
      refine WN.op prg (by simp) (by simp; rfl) (by simp) ?_
      refine WN.op prg (by simp) (by simp; rfl) (by simp) ?_
      refine WN.op prg (by simp) (by simp; rfl) (by simp) ?_
      refine WN.keep [0, 3] ?_
      have e := shl_k (k := k) (by omega)
      rw [e] at hb
      refine ⟨by omega, fun j hj => ?_, by simp [wrap_id (n := (k : Int) + 1 + 1) (by omega) (by omega)]⟩
      by_cases h : j = k
      · subst h; exact hb
      · exact hno j (by omega)
  · try simp at hb
    refine WP.exit ?_
    refine WP.seq ?_
    refine WP.regN prg (by kernel_rfl) ?_ -- region 6
    refine WN.op prg (by simp) (by simp; rfl) (by simp) ?_
    refine WN.keep [2] ?_
    refine WP.ret (DoneQ.ret [] (by simp; rfl) (by simp; rfl) ?_)
    exact ⟨rfl, by simp [onlyV_no fun j hj => hno j (by omega)]⟩
theorem maskOk_iff {n m : Int} : maskOk n m = true ↔ 0 ≤ m ∧ m ≤ allV n ∧ m % 2 = 0 := by simp [maskOk, and_assoc]
theorem allV4 : allV 4 = 30 := by decide
def mvals (m : Int) (k : Nat) : List Int := (vlist k).filter (bit m)
theorem mvals_succ (m : Int) (k : Nat) : mvals m (k + 1) = if bit m ((k : Int) + 1) = true then mvals m k ++ [(k : Int) + 1] else mvals m k := by
  unfold mvals
  rw [vlist_succ, List.filter_append]
  split <;> simp_all [List.filter_cons]
theorem mvals_le (m : Int) (k : Nat) : (mvals m k).length ≤ k := by
  unfold mvals
  exact Nat.le_trans (List.length_filter_le _ _) (by simp [vlist])
theorem mvals4 {m : Int} (h : maskOk 4 m = true) : maskVals m = mvals m 4 := by simp [maskVals, h, mvals, vlist, List.range_succ]
@[simp] theorem mvals0 (m : Int) : mvals m 0 = [] := rfl
theorem tmod2 {m : Int} (h : 0 ≤ m) : m.tmod 2 = m % 2 := Int.tmod_eq_emod_of_nonneg h
theorem c_specMaskValues (m : Int) : CallsA Try.prog 84 [.c (.int .i64 (m))] [] fun r ho => ho = [] ∧ r = .v (.c (.dsl true (.ints .i64 (maskVals m)))) := by
  refine CallsA.of (tv := tyOf Try.prog) (fn := Try.f84) prg.tv Try.func84 rfl rfl (by simp) ?_
  refine WP.seq ?_
  refine WP.regN prg (by kernel_rfl) ?_ -- region 0
  refine WN.op prg (by simp) (by simp; rfl) (by simp) ?_
  refine WN.keep [0] ?_
  refine WP.seq ?_
  refine WP.regN prg (by kernel_rfl) ?_ -- region 1
  refine WN.op prg (by simp) (by simp; rfl) (by simp) ?_
  refine WN.op prg (by simp) (by simp; rfl) (by simp) ?_
  refine WN.keep [0, 3] ?_
  refine WP.seq ?_
  refine WP.seq ?_
  refine WP.regN prg (by kernel_rfl) ?_ -- region 2
  refine WN.op prg (by simp) (by simp; rfl) (by simp) ?_
  refine WN.keep [0, 3, 4] ?_
  refine WP.block ?_
  refine WP.loopU ((if maskOk 4 m then 4 else 0)) (fun k => [(3, .v (.c (.osl 40 (mvals m k).length 0 ((mvals m k).length)))), (4, .v (.c (.int .i64 ((k : Int) + 1))))]) (fun k => [(40, .arr (mvals m k).length true (.ints .i64 (mvals m k)))]) (fun k => True) (fun k => by simp [putAll]; rfl) (fun k => by simp; rfl) (by simp) (by simp) (by simp) ?_
  intro k hk _
  refine WP.seq ?_
  refine WP.seq ?_
  refine WP.regN prg (by kernel_rfl) ?_ -- region 3
  refine WN.op prg (by simp) (by simp; rfl) (by simp) ?_
  refine WN.op prg (by simp) (by simp; rfl) (by simp) ?_
  refine WN.op prg (by simp) (by simp; rfl) (by simp) ?_
  apply WN.join (t := 11) 3 8
  · first | rfl | (simp; rfl)
  · intro hg8
    refine WN.op prg (by simp) (by simp; rfl) (by simp) ?_
    refine WN.call prg [] [] (by simp) rfl (by simp; rfl) (by simp) (CallsA.at (by simp) (by simp) (c_l1In m 0 30)) ?_
    rintro _ _ ⟨rfl, rfl⟩
    refine ⟨_, by simp; rfl, ?_⟩
    refine WN.op prg (by simp) (by simp; rfl) (by simp) ?_
    exact WN.keep [11, 0, 3, 4, 13, 14, 15] rfl
  · intro hg8
    refine WN.skip prg (by simp) ?_
    refine WN.skip prg (by simp) ?_
    refine WN.op prg (by simp) (by simp; rfl) (by simp) ?_
    exact WN.keep [11, 0, 3, 4, 13, 14, 15] rfl
  refine WN.op prg (by simp) (by simp; rfl) (by simp) ?_
  apply WN.join (t := 16) 4 12
  · first | rfl | (simp; rfl)
  · intro hg12
    refine WN.op prg (by simp) (by simp; rfl) (by simp) ?_
    refine WN.op prg (by simp) (by simp; rfl) (by first | (simp; done) | (simp; omega)) ?_
    refine WN.op prg (by simp) (by simp; rfl) (by simp) ?_
    refine WN.op prg (by simp) (by simp; rfl) (by simp) ?_
    exact WN.keep [16, 0, 3, 4] rfl
  · intro hg12
    refine WN.skip prg (by simp) ?_
    refine WN.skip prg (by simp) ?_
    refine WN.skip prg (by simp) ?_
    refine WN.op prg (by simp) (by simp; rfl) (by simp) ?_
    exact WN.keep [16, 0, 3, 4] rfl
  refine WN.keep [0, 3, 4, 16] ?_
  refine WP.cond (by first | rfl | (simp; rfl)) (fun hb => ?_) (fun hb => ?_)
  · try simp at hb
    refine WP.skip ?_
    refine WP.seq ?_
    refine WP.block ?_
    refine WP.seq ?_
    refine WP.regN prg (by kernel_rfl) ?_ -- region 5
    refine WN.op prg (by simp) (by simp; rfl) (by simp) ?_
    refine WN.op prg (by simp) (by simp; rfl) (by simp) ?_
    refine WN.op prg (by simp) (by simp; rfl) (by first | (simp; done) | (simp; omega)) ?_
    refine WN.op prg (by simp) (by simp; rfl) (by first | (simp; done) | (simp; omega)) ?_
    refine WN.op prg (by simp) (by simp; rfl) (by simp) ?_
    refine WN.keep [0, 3, 4, 23] ?_
    refine WP.cond (by first | rfl | (simp; rfl)) (fun hb => ?_) (fun hb => ?_)
    · try simp at hb
      refine WP.regN prg (by kernel_rfl) ?_ -- region 6
      refine WN.op prg (by simp) (by simp; rfl) (by simp) ?_
      refine WN.op prg (by simp) (by simp; rfl) (by simp) ?_
      refine WN.op prg (by simp) (by simp; rfl) (by simp) ?_
      refine WN.op prg (by simp) (by simp; rfl) (by have := mvals_le m k; simp; omega) ?_
      refine WN.op prg (by simp) (by simp; rfl) (by simp) ?_
      refine WN.keep [0, 3, 4] ?_
      refine WP.regN prg (by kernel_rfl) ?_ -- region 4
      refine WN.tidy [0, 3, 4] [40] (by simp; rfl) ?_
      refine WN.op prg (by simp) (by simp; rfl) (by simp) ?_
      refine WN.op prg (by simp) (by simp; rfl) (by simp) ?_
      refine WN.op prg (by simp) (by simp; rfl) (by simp) ?_
      refine WN.keep [0, 3, 4] ?_
      rename_i hgo
      have h0 : 0 ≤ m := by omega
      rw [tmod2 h0] at hgo
      have hok : maskOk 4 m = true := maskOk_iff.2 (by rw [allV4]; omega)
      have hbt := bit_rem_k h0 (by omega) (k := k) (by omega)
      rw [decide_eq_true hb] at hbt
      refine ⟨by rw [if_pos hok]; omega, trivial, ?_⟩
      simp [mvals_succ, ← hbt, wrap_id (n := (k : Int) + 1 + 1) (by omega) (by omega)]
    · try simp at hb
      refine WP.skip ?_
      refine WP.regN prg (by kernel_rfl) ?_ -- region 4
      refine WN.tidy [0, 3, 4] [40] (by simp; rfl) ?_
      refine WN.op prg (by simp) (by simp; rfl) (by simp) ?_
      refine WN.op prg (by simp) (by simp; rfl) (by simp) ?_
      refine WN.op prg (by simp) (by simp; rfl) (by simp) ?_
      refine WN.keep [0, 3, 4] ?_
      rename_i hgo
      have h0 : 0 ≤ m := by omega
      rw [tmod2 h0] at hgo
      have hok : maskOk 4 m = true := maskOk_iff.2 (by rw [allV4]; omega)
      have hbt := bit_rem_k h0 (by omega) (k := k) (by omega)
      rw [decide_eq_false hb] at hbt
      refine ⟨by rw [if_pos hok]; omega, trivial, ?_⟩
      simp [mvals_succ, ← hbt, wrap_id (n := (k : Int) + 1 + 1) (by omega) (by omega)]
  · try simp at hb
    refine WP.exit ?_
    refine WP.seq ?_
    refine WP.regN prg (by kernel_rfl) ?_ -- region 7
    refine WN.op prg (by simp) (by simp; rfl) (by simp) ?_
    refine WN.op prg (by simp) (by simp; rfl) (by simp) ?_
    refine WN.keep [2] ?_
    refine WP.ret (DoneQ.ret [] (by simp; rfl) (by simp; rfl) ?_)
    refine ⟨rfl, ?_⟩
    have : maskVals m = mvals m k := by
      split at hk
      · rename_i hok
        rw [mvals4 hok]
        obtain ⟨h0, h1, h2⟩ := maskOk_iff.1 hok
        rw [allV4] at h1
        rw [tmod2 h0] at hb
        have : k = 4 := by
          by_cases h : (k : Int) + 1 ≤ 4
          · exact absurd h2 (hb h h0 h1)
          · omega
        rw [this]
      · rename_i hok
        have : k = 0 := by omega
        subst this
        simp [maskVals, hok]
    simp [this, List.take_of_length_le]
theorem sub30 {m : Int} (h : maskOk 4 m = true) : subI m 30 = 0 := by
  obtain ⟨h0, h1, h2⟩ := maskOk_iff.1 h
  rw [allV4] at h1
  exact fin_all (p := fun m => m % 2 = 0 → subI m 30 = 0) (N := 31) (by decide +kernel) h0 (by omega) h2
theorem c_implMaskValues (m : Int) (hm : maskOk 4 m = true) : CallsA Try.prog 141 [.c (.int .i64 (m))] [] fun r ho => ho = [] ∧ r = .v (.c (.dsl true (.ints .i64 (maskVals m)))) := by
  refine CallsA.of (tv := tyOf Try.prog) (fn := Try.f141) prg.tv Try.func141 rfl rfl (by simp) ?_
  refine WP.seq ?_
  refine WP.regN prg (by kernel_rfl) ?_ -- region 0
  refine WN.op prg (by simp) (by simp; rfl) (by simp) ?_
  refine WN.keep [0] ?_
  refine WP.seq ?_
  refine WP.seq ?_
  refine WP.regN prg (by kernel_rfl) ?_ -- region 1
  refine WN.op prg (by simp) (by simp; rfl) (by simp) ?_
  refine WN.op prg (by simp) (by simp; rfl) (by simp) ?_
  refine WN.op prg (by simp) (by simp; rfl) (by simp) ?_
  apply WN.join (t := 12) 5 7
  · first | rfl | (simp; rfl)
  · intro hg7
    refine WN.skip prg (by simp) ?_
    refine WN.skip prg (by simp) ?_
    refine WN.skip prg (by simp) ?_
    refine WN.skip prg (by simp) ?_
    refine WN.op prg (by simp) (by simp; rfl) (by simp) ?_
    exact WN.keep [12, 0] rfl
  · intro hg7
    refine WN.op prg (by simp) (by simp; rfl) (by simp) ?_
    refine WN.call prg [] [] (by simp) rfl (by simp; rfl) (by simp) (CallsA.at (by simp) (by simp) (c_allValues 4 (by omega) (by omega))) ?_
    rintro _ _ ⟨rfl, rfl⟩
    refine ⟨_, by simp; rfl, ?_⟩
    refine WN.op prg (by simp) (by simp; rfl) (by simp) ?_
    refine WN.op prg (by simp) (by simp; rfl) (by simp) ?_
    refine WN.op prg (by simp) (by simp; rfl) (by simp) ?_
    exact WN.keep [12, 0] rfl
  refine WN.keep [0, 12] ?_
  refine WP.cond (by first | rfl | (simp; rfl)) (fun hb => ?_) (fun hb => ?_)
  · try simp at hb
    refine WP.seq ?_
    refine WP.regN prg (by kernel_rfl) ?_ -- region 2
    refine WN.op prg (by simp) (by simp; rfl) (by simp) ?_
    refine WN.keep [2] ?_
    refine WP.ret (DoneQ.ret [] (by simp; rfl) (by simp; rfl) ?_)
    exfalso
    obtain ⟨h0, h1, h2⟩ := maskOk_iff.1 hm
    rw [allV4] at h1 hb
    rcases hb with hb | hb
    · omega
    · rw [bits_andNot h0 (by omega) (by omega) (by omega)] at hb
      exact hb (sub30 hm)
  · try simp at hb
    refine WP.skip ?_
    refine WP.seq ?_
    refine WP.regN prg (by kernel_rfl) ?_ -- region 3
    refine WN.op prg (by simp) (by simp; rfl) (by simp) ?_
    refine WN.op prg (by simp) (by simp; rfl) (by simp) ?_
    refine WN.keep [0, 3] ?_
    refine WP.seq ?_
    refine WP.seq ?_
    refine WP.regN prg (by kernel_rfl) ?_ -- region 4
    refine WN.op prg (by simp) (by simp; rfl) (by simp) ?_
    refine WN.keep [0, 3, 4] ?_
    refine WP.block ?_
    obtain ⟨h0, h1, h2⟩ := maskOk_iff.1 hm
    rw [allV4] at h1
    clear hb
    refine WP.loopU (4) (fun k => [(3, .v (.c (.osl 104 (mvals m k).length 0 ((mvals m k).length)))), (4, .v (.c (.int .i64 ((k : Int) + 1))))]) (fun k => [(104, .arr (mvals m k).length true (.ints .i64 (mvals m k)))]) (fun k => True) (fun k => by simp [putAll]; rfl) (fun k => by simp; rfl) (by simp) (by simp) (by simp) ?_
    intro k hk _
    refine WP.seq ?_
    refine WP.seq ?_
    refine WP.regN prg (by kernel_rfl) ?_ -- region 5
    refine WN.op prg (by simp) (by simp; rfl) (by simp) ?_
    refine WN.op prg (by simp) (by simp; rfl) (by simp) ?_
    refine WN.keep [0, 3, 4, 15] ?_
    refine WP.cond (by first | rfl | (simp; rfl)) (fun hb => ?_) (fun hb => ?_)
    · try simp at hb
      refine WP.skip ?_
      refine WP.seq ?_
      refine WP.block ?_
      refine WP.seq ?_
      refine WP.regN prg (by kernel_rfl) ?_ -- region 7
      refine WN.op prg (by simp) (by simp; rfl) (by simp) ?_
      refine WN.op prg (by simp) (by simp; rfl) (by simp) ?_
      refine WN.op prg (by simp) (by simp; rfl) (by first | (simp; done) | (simp; omega)) ?_
      refine WN.op prg (by simp) (by simp; rfl) (by simp) ?_
      refine WN.op prg (by simp) (by simp; rfl) (by simp) ?_
      refine WN.keep [0, 3, 4, 22] ?_
      refine WP.cond (by first | rfl | (simp; rfl)) (fun hb => ?_) (fun hb => ?_)
      · try simp at hb
        refine WP.regN prg (by kernel_rfl) ?_ -- region 8
        refine WN.op prg (by simp) (by simp; rfl) (by simp) ?_
        refine WN.op prg (by simp) (by simp; rfl) (by simp) ?_
        refine WN.op prg (by simp) (by simp; rfl) (by simp) ?_
        refine WN.op prg (by simp) (by simp; rfl) (by have := mvals_le m k; simp; omega) ?_
        refine WN.op prg (by simp) (by simp; rfl) (by simp) ?_
        refine WN.keep [0, 3, 4] ?_
        refine WP.regN prg (by kernel_rfl) ?_ -- region 6
        refine WN.tidy [0, 3, 4] [104] (by simp; rfl) ?_
        refine WN.op prg (by simp) (by simp; rfl) (by simp) ?_
        refine WN.op prg (by simp) (by simp; rfl) (by simp) ?_
        refine WN.op prg (by simp) (by simp; rfl) (by simp) ?_
        refine WN.keep [0, 3, 4] ?_
        have hbt := bit_and1_k h0 (by omega) (k := k) (by omega)
        rw [decide_eq_true hb] at hbt
        refine ⟨by omega, trivial, ?_⟩
        simp [mvals_succ, ← hbt, wrap_id (n := (k : Int) + 1 + 1) (by omega) (by omega)]
      · try simp at hb
        refine WP.skip ?_
        refine WP.regN prg (by kernel_rfl) ?_ -- region 6
        refine WN.tidy [0, 3, 4] [104] (by simp; rfl) ?_
        refine WN.op prg (by simp) (by simp; rfl) (by simp) ?_
        refine WN.op prg (by simp) (by simp; rfl) (by simp) ?_
        refine WN.op prg (by simp) (by simp; rfl) (by simp) ?_
        refine WN.keep [0, 3, 4] ?_
        have hbt := bit_and1_k h0 (by omega) (k := k) (by omega)
        rw [decide_eq_false hb] at hbt
        refine ⟨by omega, trivial, ?_⟩
        simp [mvals_succ, ← hbt, wrap_id (n := (k : Int) + 1 + 1) (by omega) (by omega)]
    · try simp at hb
      refine WP.exit ?_
      refine WP.seq ?_
      refine WP.regN prg (by kernel_rfl) ?_ -- region 9
      refine WN.op prg (by simp) (by simp; rfl) (by simp) ?_
      refine WN.op prg (by simp) (by simp; rfl) (by simp) ?_
      refine WN.keep [2] ?_
      refine WP.ret (DoneQ.ret [] (by simp; rfl) (by simp; rfl) ?_)
      refine ⟨rfl, ?_⟩
      have : k = 4 := by omega
      have : maskVals m = mvals m k := by rw [mvals4 hm, this]
      simp [this, List.take_of_length_le]
end Go.Proofs.Ytaicenafkjbnoaa

