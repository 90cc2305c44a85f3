/- Contracts: valid masks; whether rules hold for values. -/
import Derived.Test.YtaicenafkjbnoaaC6
set_option linter.unusedVariables false
set_option linter.unusedSimpArgs false
namespace Go.Proofs.Ytaicenafkjbnoaa
open Go Go.AM
set_option maxRecDepth 100000

theorem masksOk_iff {ms : List Int} {n : Int} : masksOk ms n = true ↔ 2 ≤ n ∧ n ≤ 4 ∧ (ms.length : Int) = n * n ∧ ∀ m ∈ ms, maskOk n m = true := by simp [masksOk, and_assoc]
theorem allV_le {n : Int} (h2 : 2 ≤ n) (h4 : n ≤ 4) : 6 ≤ allV n ∧ allV n ≤ 30 := by
  have : n = 2 ∨ n = 3 ∨ n = 4 := by omega
  rcases this with rfl | rfl | rfl <;> decide
theorem maskOk4 {n m : Int} (h2 : 2 ≤ n) (h4 : n ≤ 4) (h : maskOk n m = true) : maskOk 4 m = true := by
  rw [maskOk_iff] at *
  have := allV_le h2 h4
  rw [allV4]
  omega
theorem masksOk_get {ms : List Int} {n : Int} (h : masksOk ms n = true) {k : Nat} (hk : k < ms.length) : maskOk n (ms[k]?.getD 0) = true := by
  rw [List.getElem?_eq_getElem hk]
  exact (masksOk_iff.1 h).2.2.2 _ (List.getElem_mem hk)
theorem masks_len {ms : List Int} {n : Int} (h : masksOk ms n = true) : 4 ≤ ms.length ∧ ms.length ≤ 16 := by
  obtain ⟨h2, h4, hl, _⟩ := masksOk_iff.1 h
  have := sq_bound h2 h4
  omega
theorem allV_m {n : Int} (h2 : 2 ≤ n) (h4 : n ≤ 4) : IntKind.i64.wrap (IntKind.i64.wrap (2 ^ (min (IntKind.i64.wrap (bitsI .and .i64 n 7 + 1)).toNat 64)) - 2) = allV n ∧ 0 ≤ IntKind.i64.wrap (bitsI .and .i64 n 7 + 1) := by
  have : n = 2 ∨ n = 3 ∨ n = 4 := by omega
  rcases this with rfl | rfl | rfl <;> decide +kernel
theorem sub_all {n m : Int} (h2 : 2 ≤ n) (h4 : n ≤ 4) (h : maskOk n m = true) : subI m (allV n) = 0 := by
  obtain ⟨h0, h1, h3⟩ := maskOk_iff.1 h
  have : n = 2 ∨ n = 3 ∨ n = 4 := by omega
  have hb := allV_le h2 h4
  rcases this with rfl | rfl | rfl
  · exact fin_all (p := fun m => m ≤ allV 2 → m % 2 = 0 → subI m (allV 2) = 0) (N := 31) (by decide +kernel) h0 (by omega) h1 h3
  · exact fin_all (p := fun m => m ≤ allV 3 → m % 2 = 0 → subI m (allV 3) = 0) (N := 31) (by decide +kernel) h0 (by omega) h1 h3
  · exact fin_all (p := fun m => m ≤ allV 4 → m % 2 = 0 → subI m (allV 4) = 0) (N := 31) (by decide +kernel) h0 (by omega) h1 h3
theorem c_specMasksValid (ms : List Int) (n : Int) (hm : masksOk ms n = true) : CallsA Try.prog 125 [.c (.dsl false (.ints .i64 (ms))), .c (.int .i64 (n))] [] fun r ho => ho = [] ∧ r = .v (.c (.bool (true))) := by
  refine CallsA.of (tv := tyOf Try.prog) (fn := Try.f125) prg.tv Try.func125 rfl rfl (by simp) ?_
  refine WP.seq ?_
  refine WP.regN prg (by kernel_rfl) ?_ -- region 0
  refine WN.op prg (by simp) (by simp; rfl) (by simp) ?_
  refine WN.keep [0, 1] ?_
  refine WP.seq ?_
  refine WP.seq ?_
  refine WP.regN prg (by kernel_rfl) ?_ -- region 1
  refine WN.op prg (by simp) (by simp; rfl) (by simp) ?_
  refine WN.keep [0, 1, 5] ?_
  refine WP.block ?_
  have hml := masks_len hm
  obtain ⟨h2, h4, hl, hall⟩ := masksOk_iff.1 hm
  obtain ⟨hX, hX0⟩ := allV_m h2 h4
  refine WP.loopU (ms.length) (fun k => [(5, .v (.c (.int .i64 (k))))]) (fun k => []) (fun k => True) (fun k => by simp [putAll]; rfl) (fun k => by simp; rfl) (by simp) (by simp) (by simp) ?_
  intro k hk _
  refine WP.seq ?_
  refine WP.seq ?_
  refine WP.regN prg (by kernel_rfl) ?_ -- region 2
  refine WN.op prg (by simp) (by simp; rfl) (by simp) ?_
  refine WN.op prg (by simp) (by simp; rfl) (by simp) ?_
  refine WN.op prg (by simp) (by simp; rfl) (by simp) ?_
  refine WN.op prg (by simp) (by simp; rfl) (by simp) ?_
  refine WN.keep [0, 1, 5, 9] ?_
  refine WP.cond (by first | rfl | (simp; rfl)) (fun hb => ?_) (fun hb => ?_)
  · try simp at hb
    refine WP.skip ?_
    refine WP.seq ?_
    refine WP.block ?_
    refine WP.seq ?_
    refine WP.reg prg (by kernel_rfl) ?_ -- region 4 DRAWS
    refine WS.d (by simp) (by simp; rfl) (by simp) (by kernel_rfl) ?_
    refine WS.d (by simp) (by simp; rfl) (by simp) (by kernel_rfl) ?_
    refine WS.d (by simp) (by simp; rfl) (by first | (simp; done) | (simp; omega)) (by kernel_rfl) ?_
    refine WS.d (by simp) (by simp; rfl) (by first | (simp; done) | (simp; omega)) (by kernel_rfl) ?_
    refine WS.d (by simp) (by simp; rfl) (by simp) (by kernel_rfl) ?_
    refine WS.d (by simp) (by simp; rfl) (by simp) (by kernel_rfl) ?_
    refine WS.d (by simp) (by simp; rfl) (by simp) (by kernel_rfl) ?_
    refine WS.d (by simp) (by simp; rfl) (by simp; omega) (by kernel_rfl) ?_
    refine WS.d (by simp) (by simp; rfl) (by simp) (by kernel_rfl) ?_
    obtain ⟨g0, g1, g2⟩ := maskOk_iff.1 (masksOk_get hm (show k < ms.length by omega))
    refine WS.callD [] [] (by simp) rfl (by simp; rfl) (by simp) (CallsA.at (by simp) (by simp) (c_l1In (ms[k]?.getD 0) 0 (IntKind.i64.wrap (IntKind.i64.wrap (2 ^ min (IntKind.i64.wrap (bitsI BinOp.and IntKind.i64 n 7 + 1)).toNat 64) - 2)))) (by kernel_rfl) ⟨_, _, rfl, rfl⟩ ?_
    rintro _ _ ⟨rfl, rfl⟩
    refine ⟨_, by simp; rfl, ?_⟩
    refine WS.d (by simp) (by simp; rfl) (by simp) (by kernel_rfl) ?_
    refine WS.d (by simp) (by simp; rfl) (by simp) (by kernel_rfl) ?_
    refine WS.cases 23 (by simp; rfl) (fun hg23 => ?_) (fun hg23 => ?_)
    · refine WS.skipD (by simp) (by kernel_rfl) ?_
      refine WS.skipD (by simp) (by kernel_rfl) ?_
      refine WS.skipD (by simp) (by kernel_rfl) ?_
      refine WS.skipD (by simp) (by kernel_rfl) ?_
      refine WS.skipD (by simp) (by kernel_rfl) ?_
      refine WS.skipD (by simp) (by kernel_rfl) ?_
      refine WS.d (by simp) (by simp; rfl) (by simp) (by kernel_rfl) ?_
      refine WS.keep [0, 1, 5, 30] ?_
      refine WP.cond (by first | rfl | (simp; rfl)) (fun hb => ?_) (fun hb => absurd hb (by simp))
      refine WP.seq ?_
      refine WP.regN prg (by kernel_rfl) ?_ -- region 5
      refine WN.op prg (by simp) (by simp; rfl) (by simp) ?_
      refine WN.keep [4] ?_
      refine WP.ret (DoneQ.ret [] (by simp; rfl) (by simp; rfl) ?_)
      exfalso
      rw [hX] at hg23
      simp at hg23
      omega
    · refine WS.d (by simp) (by simp; rfl) (by simp) (by kernel_rfl) ?_
      refine WS.d (by simp) (by simp; rfl) (by simp) (by kernel_rfl) ?_
      refine WS.d (by simp) (by simp; rfl) (by first | (simp; done) | (simp; omega)) (by kernel_rfl) ?_
      refine WS.d (by simp) (by simp; rfl) (by first | (simp; done) | (simp; omega)) (by kernel_rfl) ?_
      refine WS.d (by simp) (by simp; rfl) (by first | (simp; done) | (simp; omega)) (by kernel_rfl) ?_
      refine WS.d (by simp) (by simp; rfl) (by simp) (by kernel_rfl) ?_
      refine WS.d (by simp) (by simp; rfl) (by simp) (by kernel_rfl) ?_
      refine WS.keep [0, 1, 5, 30] ?_
      refine WP.cond (by first | rfl | (simp; rfl)) (fun hb => ?_) (fun hb => ?_)
      · try simp at hb
        refine WP.seq ?_
        refine WP.regN prg (by kernel_rfl) ?_ -- region 5
        refine WN.op prg (by simp) (by simp; rfl) (by simp) ?_
        refine WN.keep [4] ?_
        refine WP.ret (DoneQ.ret [] (by simp; rfl) (by simp; rfl) ?_)
        exfalso
        rw [tmod2 g0] at hb
        omega
      · try simp at hb
        refine WP.skip ?_
        refine WP.regN prg (by kernel_rfl) ?_ -- region 3
        refine WN.op prg (by simp) (by simp; rfl) (by simp) ?_
        refine WN.op prg (by simp) (by simp; rfl) (by simp) ?_
        refine WN.op prg (by simp) (by simp; rfl) (by simp) ?_
        refine WN.keep [0, 1, 5] ?_
        exact ⟨by omega, trivial, by simp [wrap_id (n := (k : Int) + 1) (by omega) (by omega)]⟩
  · try simp at hb
    refine WP.exit ?_
    refine WP.seq ?_
    refine WP.regN prg (by kernel_rfl) ?_ -- region 6
    refine WN.op prg (by simp) (by simp; rfl) (by simp) ?_
    refine WN.call prg [] [] (by simp) rfl (by simp; rfl) (by simp) (CallsA.at (by simp) (by simp) (c_l1In n 2 4)) ?_
    rintro _ _ ⟨rfl, rfl⟩
    refine ⟨_, by simp; rfl, ?_⟩
    refine WN.op prg (by simp) (by simp; rfl) (by simp) ?_
    apply WN.join (t := 40) 7 33
    · first | rfl | (simp; rfl)
    · intro hg33
      refine WN.op prg (by simp) (by simp; rfl) (by simp) ?_
      refine WN.op prg (by simp) (by simp; rfl) (by simp) ?_
      refine WN.op prg (by simp) (by simp; rfl) (by simp) ?_
      refine WN.op prg (by simp) (by simp; rfl) (by simp) ?_
      refine WN.op prg (by simp) (by simp; rfl) (by simp) ?_
      refine WN.op prg (by simp) (by simp; rfl) (by simp) ?_
      refine WN.op prg (by simp) (by simp; rfl) (by simp) ?_
      exact WN.keep [40] rfl
    · intro hg33
      refine WN.skip prg (by simp) ?_
      refine WN.skip prg (by simp) ?_
      refine WN.skip prg (by simp) ?_
      refine WN.skip prg (by simp) ?_
      refine WN.skip prg (by simp) ?_
      refine WN.skip prg (by simp) ?_
      refine WN.op prg (by simp) (by simp; rfl) (by simp) ?_
      exact WN.keep [40] rfl
    refine WN.op prg (by simp) (by simp; rfl) (by simp) ?_
    refine WN.keep [4] ?_
    refine WP.ret (DoneQ.ret [] (by simp; rfl) (by simp; rfl) ?_)
    have h5 := sq_bound h2 h4
    exact ⟨rfl, by simp [h2, h4, wrap_id (n := n * n) (by omega) (by omega), hl]⟩
theorem c_implMasksValid (ms : List Int) (n : Int) (hm : masksOk ms n = true) : CallsA Try.prog 152 [.c (.dsl false (.ints .i64 (ms))), .c (.int .i64 (n))] [] fun r ho => ho = [] ∧ r = .v (.c (.bool (true))) := by
  have hml := masks_len hm
  obtain ⟨h2, h4, hl, hall⟩ := masksOk_iff.1 hm
  have h5 := sq_bound h2 h4
  refine CallsA.of (tv := tyOf Try.prog) (fn := Try.f152) prg.tv Try.func152 rfl rfl (by simp) ?_
  refine WP.seq ?_
  refine WP.regN prg (by kernel_rfl) ?_ -- region 0
  refine WN.op prg (by simp) (by simp; rfl) (by simp) ?_
  refine WN.keep [0, 1] ?_
  refine WP.seq ?_
  refine WP.seq ?_
  refine WP.regN prg (by kernel_rfl) ?_ -- region 1
  refine WN.op prg (by simp) (by simp; rfl) (by simp) ?_
  refine WN.call prg [] [] (by simp) rfl (by simp; rfl) (by simp) (CallsA.at (by simp) (by simp) (c_sizeOk n)) ?_
  rintro _ _ ⟨rfl, rfl⟩
  refine ⟨_, by simp; rfl, ?_⟩
  refine WN.op prg (by simp) (by simp; rfl) (by simp) ?_
  refine WN.op prg (by simp) (by simp; rfl) (by simp) ?_
  apply WN.join (t := 17) 7 10
  · first | rfl | (simp; rfl)
  · intro hg10
    refine WN.skip prg (by simp) ?_
    refine WN.skip prg (by simp) ?_
    refine WN.skip prg (by simp) ?_
    refine WN.skip prg (by simp) ?_
    refine WN.skip prg (by simp) ?_
    refine WN.skip prg (by simp) ?_
    refine WN.op prg (by simp) (by simp; rfl) (by simp) ?_
    exact WN.keep [17, 0, 1] rfl
  · intro hg10
    refine WN.op prg (by simp) (by simp; rfl) (by simp) ?_
    refine WN.op prg (by simp) (by simp; rfl) (by simp) ?_
    refine WN.op prg (by simp) (by simp; rfl) (by simp) ?_
    refine WN.op prg (by simp) (by simp; rfl) (by simp) ?_
    refine WN.op prg (by simp) (by simp; rfl) (by simp) ?_
    refine WN.op prg (by simp) (by simp; rfl) (by simp) ?_
    refine WN.op prg (by simp) (by simp; rfl) (by simp) ?_
    exact WN.keep [17, 0, 1] rfl
  refine WN.keep [0, 1, 17] ?_
  refine WP.cond (by first | rfl | (simp; rfl)) (fun hb => ?_) (fun hb => ?_)
  · try simp at hb
    refine WP.seq ?_
    refine WP.regN prg (by kernel_rfl) ?_ -- region 2
    refine WN.op prg (by simp) (by simp; rfl) (by simp) ?_
    refine WN.keep [4] ?_
    refine WP.ret (DoneQ.ret [] (by simp; rfl) (by simp; rfl) ?_)
    exfalso
    rw [wrap_id (n := n * n) (by omega) (by omega)] at hb
    omega
  · try simp at hb
    refine WP.skip ?_
    refine WP.seq ?_
    refine WP.seq ?_
    refine WP.regN prg (by kernel_rfl) ?_ -- region 3
    refine WN.op prg (by simp) (by simp; rfl) (by simp) ?_
    refine WN.op prg (by simp) (by simp; rfl) (by simp) ?_
    refine WN.op prg (by simp) (by simp; rfl) (by simp) ?_
    refine WN.keep [1, 18, 19, 20] ?_
    refine WP.block ?_
    refine WP.loopU (ms.length) (fun k => [(20, .v (.c (.int .i64 (k))))]) (fun k => []) (fun k => True) (fun k => by simp [putAll]; rfl) (fun k => by simp; rfl) (by simp) (by simp) (by simp) ?_
    intro k hk _
    refine WP.seq ?_
    refine WP.regN prg (by kernel_rfl) ?_ -- region 4
    refine WN.op prg (by simp) (by simp; rfl) (by simp) ?_
    refine WN.keep [1, 18, 19, 20, 21] ?_
    refine WP.seq ?_
    refine WP.cond (by first | rfl | (simp; rfl)) (fun hb => ?_) (fun hb => ?_)
    · try simp at hb
      refine WP.skip ?_
      refine WP.seq ?_
      refine WP.block ?_
      refine WP.seq ?_
      refine WP.regN prg (by kernel_rfl) ?_ -- region 5
      refine WN.op prg (by simp) (by simp; rfl) (by first | (simp; done) | (simp; omega)) ?_
      refine WN.op prg (by simp) (by simp; rfl) (by first | (simp; done) | (simp; omega)) ?_
      refine WN.op prg (by simp) (by simp; rfl) (by simp) ?_
      refine WN.keep [1, 6, 18, 19, 20] ?_
      refine WP.seq ?_
      refine WP.regN prg (by kernel_rfl) ?_ -- region 6
      refine WN.op prg (by simp) (by simp; rfl) (by simp) ?_
      refine WN.op prg (by simp) (by simp; rfl) (by simp) ?_
      refine WN.op prg (by simp) (by simp; rfl) (by simp) ?_
      apply WN.join (t := 32) 6 26
      · first | rfl | (simp; rfl)
      · intro hg26
        refine WN.skip prg (by simp) ?_
        refine WN.skip prg (by simp) ?_
        refine WN.skip prg (by simp) ?_
        refine WN.skip prg (by simp) ?_
        refine WN.skip prg (by simp) ?_
        refine WN.op prg (by simp) (by simp; rfl) (by simp) ?_
        exact WN.keep [32, 1, 18, 19, 20] rfl
      · intro hg26
        refine WN.op prg (by simp) (by simp; rfl) (by simp) ?_
        refine WN.op prg (by simp) (by simp; rfl) (by simp) ?_
        refine WN.call prg [] [] (by simp) rfl (by simp; rfl) (by simp) (CallsA.at (by simp) (by simp) (c_allValues n (by omega) (by omega))) ?_
        rintro _ _ ⟨rfl, rfl⟩
        refine ⟨_, by simp; rfl, ?_⟩
        refine WN.op prg (by simp) (by simp; rfl) (by simp) ?_
        refine WN.op prg (by simp) (by simp; rfl) (by simp) ?_
        refine WN.op prg (by simp) (by simp; rfl) (by simp) ?_
        exact WN.keep [32, 1, 18, 19, 20] rfl
      refine WN.keep [1, 18, 19, 20, 32] ?_
      refine WP.cond (by first | rfl | (simp; rfl)) (fun hb => ?_) (fun hb => ?_)
      · try simp at hb
        refine WP.seq ?_
        refine WP.regN prg (by kernel_rfl) ?_ -- region 7
        refine WN.op prg (by simp) (by simp; rfl) (by simp) ?_
        refine WN.keep [4] ?_
        refine WP.ret (DoneQ.ret [] (by simp; rfl) (by simp; rfl) ?_)
        exfalso
        obtain ⟨g0, g1, g2⟩ := maskOk_iff.1 (masksOk_get hm (show k < ms.length by omega))
        have g3 := allV_le h2 h4
        rcases hb with hb | hb
        · omega
        · rw [bits_andNot g0 (by omega) (by omega) (by omega)] at hb
          exact hb (sub_all h2 h4 (masksOk_get hm (show k < ms.length by omega)))
      · try simp at hb
        refine WP.skip ?_
        refine WP.regN prg (by kernel_rfl) ?_ -- region 8
        refine WN.op prg (by simp) (by simp; rfl) (by simp) ?_
        refine WN.op prg (by simp) (by simp; rfl) (by simp) ?_
        refine WN.keep [1, 18, 19, 20] ?_
        exact ⟨by omega, trivial, by simp [wrap_id (n := (k : Int) + 1) (by omega) (by omega)]⟩
    · try simp at hb
      refine WP.exit ?_
      refine WP.seq ?_
      refine WP.regN prg (by kernel_rfl) ?_ -- region 9
      refine WN.op prg (by simp) (by simp; rfl) (by simp) ?_
      refine WN.keep [4] ?_
      refine WP.ret (DoneQ.ret [] (by simp; rfl) (by simp; rfl) ?_)
      exact ⟨rfl, by simp⟩
/-- Values of the cells of a rule: few and small. -/
def VsOk (vs : List Int) : Prop := vs.length ≤ 4 ∧ ∀ v ∈ vs, 0 ≤ v ∧ v ≤ 4
theorem VsOk.get {vs : List Int} (h : VsOk vs) (k : Nat) : 0 ≤ vs[k]?.getD 0 ∧ vs[k]?.getD 0 ≤ 4 := by
  cases hk : vs[k]? with
  | none => simp
  | some v => exact h.2 v (List.mem_of_getElem? hk)
theorem VsOk.take {vs : List Int} (h : VsOk vs) (k : Nat) : VsOk (vs.take k) := ⟨by have := h.1; simp; omega, fun v hv => h.2 v (List.mem_of_mem_take hv)⟩
theorem sum_take (vs : List Int) {k : Nat} (hk : k < vs.length) : (vs.take (k + 1)).sum = (vs.take k).sum + vs[k]?.getD 0 := by
  rw [take_snoc (List.getElem?_eq_getElem hk), List.sum_append, List.getElem?_eq_getElem hk]
  simp
theorem prod_take (vs : List Int) {k : Nat} (hk : k < vs.length) : (vs.take (k + 1)).foldl (· * ·) 1 = (vs.take k).foldl (· * ·) 1 * vs[k]?.getD 0 := by
  rw [take_snoc (List.getElem?_eq_getElem hk), List.foldl_append, List.getElem?_eq_getElem hk]
  simp
theorem bounds_take {vs : List Int} (h : VsOk vs) : ∀ k, k ≤ vs.length → 0 ≤ (vs.take k).sum ∧ (vs.take k).sum ≤ 4 * k ∧ 0 ≤ (vs.take k).foldl (· * ·) 1 ∧ (vs.take k).foldl (· * ·) 1 ≤ 4 ^ k
  | 0, _ => by simp
  | k + 1, hk => by
    obtain ⟨a, b, c, d⟩ := bounds_take h k (by omega)
    obtain ⟨e, f⟩ := h.get k
    rw [sum_take vs (by omega), prod_take vs (by omega)]
    refine ⟨by omega, by omega, Int.mul_nonneg c e, ?_⟩
    rw [Int.pow_succ]
    exact Int.mul_le_mul d f e (by omega)
theorem bounds_vs {vs : List Int} (h : VsOk vs) {k : Nat} (hk : k ≤ vs.length) : 0 ≤ (vs.take k).sum ∧ (vs.take k).sum ≤ 16 ∧ 0 ≤ (vs.take k).foldl (· * ·) 1 ∧ (vs.take k).foldl (· * ·) 1 ≤ 256 := by
  obtain ⟨a, b, c, d⟩ := bounds_take h k hk
  have := h.1
  have h4 : k = 0 ∨ k = 1 ∨ k = 2 ∨ k = 3 ∨ k = 4 := by omega
  refine ⟨a, by omega, c, ?_⟩
  rcases h4 with rfl | rfl | rfl | rfl | rfl <;> omega
theorem c_valuesHold (r : Rule) (vs : List Int) (hv : VsOk vs) (hk2 : r.kind = 4 ∨ r.kind = 5 → vs.length = 2) (hk : 1 ≤ r.kind ∧ r.kind ≤ 5) : CallsA Try.prog 182 [r.v false, .c (.dsl false (.ints .i64 (vs)))] [] fun x ho => ho = [] ∧ x = .v (.c (.bool (holdsV r vs))) := by
  have hv4 := hv.1
  have hkd := hk
  unfold Rule.v
  refine CallsA.of (tv := tyOf Try.prog) (fn := Try.f182) prg.tv Try.func182 rfl rfl (by simp) ?_
  refine WP.seq ?_
  refine WP.regN prg (by kernel_rfl) ?_ -- region 0
  refine WN.op prg (by simp) (by simp; rfl) (by simp) ?_
  refine WN.op prg (by simp) (by simp; rfl) (by simp) ?_
  refine WN.keep [1, 2] ?_
  refine WP.seq ?_
  refine WP.regN prg (by kernel_rfl) ?_ -- region 1
  refine WN.op prg (by simp) (by simp; rfl) (by simp) ?_
  refine WN.op prg (by simp) (by simp; rfl) (by simp) ?_
  refine WN.keep [1, 2, 5, 6] ?_
  refine WP.seq ?_
  refine WP.seq ?_
  refine WP.regN prg (by kernel_rfl) ?_ -- region 2
  refine WN.op prg (by simp) (by simp; rfl) (by simp) ?_
  refine WN.op prg (by simp) (by simp; rfl) (by simp) ?_
  refine WN.op prg (by simp) (by simp; rfl) (by simp) ?_
  refine WN.keep [1, 2, 5, 6, 9, 10, 11] ?_
  refine WP.block ?_
  refine WP.loopU (vs.length) (fun k => [(5, .v (.c (.int .i64 ((vs.take k).sum)))), (6, .v (.c (.int .i64 ((vs.take k).foldl (· * ·) 1)))), (11, .v (.c (.int .i64 (k))))]) (fun k => []) (fun k => (r.kind = 1 → (vs.take k).Nodup)) (fun k => by simp [putAll]; rfl) (fun k => by simp; rfl) (by simp) (by simp) (by simp) ?_
  intro k hk hnd
  refine WP.seq ?_
  refine WP.regN prg (by kernel_rfl) ?_ -- region 3
  refine WN.op prg (by simp) (by simp; rfl) (by simp) ?_
  refine WN.keep [1, 2, 5, 6, 9, 10, 11, 12] ?_
  refine WP.seq ?_
  refine WP.cond (by first | rfl | (simp; rfl)) (fun hb => ?_) (fun hb => ?_)
  · try simp at hb
    refine WP.skip ?_
    refine WP.seq ?_
    refine WP.block ?_
    refine WP.seq ?_
    refine WP.regN prg (by kernel_rfl) ?_ -- region 4
    refine WN.op prg (by simp) (by simp; rfl) (by simp) ?_
    refine WN.op prg (by simp) (by simp; rfl) (by first | (simp; done) | (simp; omega)) ?_
    refine WN.op prg (by simp) (by simp; rfl) (by first | (simp; done) | (simp; omega)) ?_
    refine WN.op prg (by simp) (by simp; rfl) (by simp) ?_
    refine WN.op prg (by simp) (by simp; rfl) (by simp) ?_
    refine WN.keep [1, 2, 5, 6, 7, 8, 9, 10, 11] ?_
    refine WP.seq ?_
    refine WP.regN prg (by kernel_rfl) ?_ -- region 5
    refine WN.op prg (by simp) (by simp; rfl) (by simp) ?_
    refine WN.op prg (by simp) (by simp; rfl) (by simp) ?_
    refine WN.op prg (by simp) (by simp; rfl) (by simp) ?_
    refine WN.op prg (by simp) (by simp; rfl) (by simp) ?_
    refine WN.keep [1, 2, 5, 6, 7, 8, 9, 10, 11] ?_
    refine WP.seq ?_
    refine WP.regN prg (by kernel_rfl) ?_ -- region 6
    refine WN.op prg (by simp) (by simp; rfl) (by simp) ?_
    refine WN.op prg (by simp) (by simp; rfl) (by simp) ?_
    refine WN.op prg (by simp) (by simp; rfl) (by simp) ?_
    refine WN.op prg (by simp) (by simp; rfl) (by simp) ?_
    refine WN.keep [1, 2, 5, 6, 7, 8, 9, 10, 11] ?_
    refine WP.seq ?_
    refine WP.regN prg (by kernel_rfl) ?_ -- region 7
    refine WN.op prg (by simp) (by simp; rfl) (by simp) ?_
    refine WN.op prg (by simp) (by simp; rfl) (by first | (simp; done) | (simp; omega)) ?_
    refine WN.op prg (by simp) (by simp; rfl) (by simp) ?_
    refine WN.op prg (by simp) (by simp; rfl) (by simp) ?_
    apply WN.join (t := 31) 6 25
    · first | rfl | (simp; rfl)
    · intro hg25
      refine WN.op prg (by simp) (by simp; rfl) (by simp) ?_
      refine WN.op prg (by simp) (by simp; rfl) (by simp) ?_
      refine WN.op prg (by simp) (by simp; rfl) (by first | (simp; done) | (simp; omega)) ?_
      refine WN.op prg (by simp) (by simp; rfl) (by simp) ?_
      refine WN.call prg [] [] (by simp) rfl (by simp; rfl) (by simp) (CallsA.at (by simp) (by simp) (c_contains (vs.take k) (vs[k]?.getD 0) (by simp; omega))) ?_
      rintro _ _ ⟨rfl, rfl⟩
      refine ⟨_, by simp; rfl, ?_⟩
      refine WN.op prg (by simp) (by simp; rfl) (by simp) ?_
      exact WN.keep [31, 1, 2, 5, 6, 9, 10, 11] rfl
    · intro hg25
      refine WN.skip prg (by simp) ?_
      refine WN.skip prg (by simp) ?_
      refine WN.skip prg (by simp) ?_
      refine WN.skip prg (by simp) ?_
      refine WN.skip prg (by simp) ?_
      refine WN.op prg (by simp) (by simp; rfl) (by simp) ?_
      exact WN.keep [31, 1, 2, 5, 6, 9, 10, 11] rfl
    refine WN.keep [1, 2, 5, 6, 9, 10, 11, 31] ?_
    refine WP.cond (by first | rfl | (simp; rfl)) (fun hb => ?_) (fun hb => ?_)
    · try simp at hb
      refine WP.seq ?_
      refine WP.regN prg (by kernel_rfl) ?_ -- region 8
      refine WN.op prg (by simp) (by simp; rfl) (by simp) ?_
      refine WN.keep [4] ?_
      refine WP.ret (DoneQ.ret [] (by simp; rfl) (by simp; rfl) ?_)
      rename_i hkl
      refine ⟨rfl, ?_⟩
      have : ¬ vs.Nodup := nodup_fail (by omega) hb.2
      simp [holdsV, hb.1, this]
    · try simp at hb
      refine WP.skip ?_
      refine WP.regN prg (by kernel_rfl) ?_ -- region 9
      refine WN.op prg (by simp) (by simp; rfl) (by simp) ?_
      refine WN.op prg (by simp) (by simp; rfl) (by simp) ?_
      refine WN.keep [1, 2, 5, 6, 9, 10, 11] ?_
      rename_i hkl
      obtain ⟨b1, b2, b3, b4⟩ := bounds_vs hv hk
      obtain ⟨d1, d2⟩ := hv.get k
      have d3 := prod_take vs hkl
      have d4 := (bounds_vs hv (show k + 1 ≤ vs.length by omega))
      rw [d3, sum_take vs hkl] at d4
      refine ⟨by omega, fun h1 => nodup_step (hnd h1) hkl (hb h1), ?_⟩
      rw [d3, sum_take vs hkl]
      simp [wrap_id (n := (k : Int) + 1) (by omega) (by omega), wrap_id (n := (vs.take k).sum + vs[k]?.getD 0) (by omega) (by omega), wrap_id (n := (vs.take k).foldl (· * ·) 1 * vs[k]?.getD 0) (by omega) (by omega)]
  · try simp at hb
    refine WP.exit ?_
    refine WP.seq ?_
    refine WP.seq ?_
    refine WP.regN prg (by kernel_rfl) ?_ -- region 10
    refine WN.op prg (by simp) (by simp; rfl) (by simp) ?_
    refine WN.op prg (by simp) (by simp; rfl) (by first | (simp; done) | (simp; omega)) ?_
    refine WN.keep [1, 2, 5, 6, 34] ?_
    refine WP.block ?_
    refine WP.seq ?_
    refine WP.regN prg (by kernel_rfl) ?_ -- region 11
    refine WN.op prg (by simp) (by simp; rfl) (by simp) ?_
    refine WN.op prg (by simp) (by simp; rfl) (by simp) ?_
    refine WN.keep [1, 2, 5, 6, 34, 35] ?_
    refine WP.cond (by first | rfl | (simp; rfl)) (fun hb => ?_) (fun hb => ?_)
    · try simp at hb
      refine WP.seq ?_
      refine WP.regN prg (by kernel_rfl) ?_ -- region 12
      refine WN.op prg (by simp) (by simp; rfl) (by simp) ?_
      refine WN.op prg (by simp) (by simp; rfl) (by simp) ?_
      refine WN.op prg (by simp) (by simp; rfl) (by first | (simp; done) | (simp; omega)) ?_
      refine WN.op prg (by simp) (by simp; rfl) (by simp) ?_
      refine WN.op prg (by simp) (by simp; rfl) (by simp) ?_
      refine WN.keep [4] ?_
      refine WP.ret (DoneQ.ret [] (by simp; rfl) (by simp; rfl) ?_)
      have hq : r.kind = 2 := hb
      have hkk : k = vs.length := by omega
      exact ⟨rfl, by simp [holdsV, hq, beq_dec, hkk]⟩
    · try simp at hb
      refine WP.seq ?_
      refine WP.regN prg (by kernel_rfl) ?_ -- region 13
      refine WN.op prg (by simp) (by simp; rfl) (by simp) ?_
      refine WN.op prg (by simp) (by simp; rfl) (by simp) ?_
      refine WN.keep [1, 2, 6, 34, 41] ?_
      refine WP.cond (by first | rfl | (simp; rfl)) (fun hb => ?_) (fun hb => ?_)
      · try simp at hb
        refine WP.seq ?_
        refine WP.regN prg (by kernel_rfl) ?_ -- region 14
        refine WN.op prg (by simp) (by simp; rfl) (by simp) ?_
        refine WN.op prg (by simp) (by simp; rfl) (by simp) ?_
        refine WN.op prg (by simp) (by simp; rfl) (by first | (simp; done) | (simp; omega)) ?_
        refine WN.op prg (by simp) (by simp; rfl) (by simp) ?_
        refine WN.op prg (by simp) (by simp; rfl) (by simp) ?_
        refine WN.keep [4] ?_
        refine WP.ret (DoneQ.ret [] (by simp; rfl) (by simp; rfl) ?_)
        have hq : r.kind = 3 := hb
        have hkk : k = vs.length := by omega
        exact ⟨rfl, by simp [holdsV, hq, beq_dec, hkk]⟩
      · try simp at hb
        refine WP.seq ?_
        refine WP.regN prg (by kernel_rfl) ?_ -- region 15
        refine WN.op prg (by simp) (by simp; rfl) (by simp) ?_
        refine WN.op prg (by simp) (by simp; rfl) (by simp) ?_
        refine WN.keep [1, 2, 34, 47] ?_
        refine WP.cond (by first | rfl | (simp; rfl)) (fun hb => ?_) (fun hb => ?_)
        · try simp at hb
          refine WP.seq ?_
          refine WP.reg prg (by kernel_rfl) ?_ -- region 16 DRAWS
          refine WS.d (by simp) (by simp; rfl) (by simp) (by kernel_rfl) ?_
          refine WS.d (by simp) (by simp; rfl) (by first | (simp; done) | (simp; omega)) (by kernel_rfl) ?_
          refine WS.d (by simp) (by simp; rfl) (by first | (simp; done) | (simp; omega)) (by kernel_rfl) ?_
          refine WS.d (by simp) (by simp; rfl) (by simp) (by kernel_rfl) ?_
          refine WS.d (by simp) (by simp; rfl) (by first | (simp; done) | (simp; omega)) (by kernel_rfl) ?_
          refine WS.d (by simp) (by simp; rfl) (by first | (simp; done) | (simp; omega)) (by kernel_rfl) ?_
          refine WS.d (by simp) (by simp; rfl) (by simp) (by kernel_rfl) ?_
          refine WS.d (by simp) (by simp; rfl) (by simp) (by kernel_rfl) ?_
          refine WS.keep [4] ?_
          refine WP.ret (DoneQ.ret [] (by simp; rfl) (by simp; rfl) ?_)
          refine ⟨rfl, ?_⟩
          simp [holdsV, hb, beq_dec]
        · try simp at hb
          refine WP.seq ?_
          refine WP.regN prg (by kernel_rfl) ?_ -- region 17
          refine WN.op prg (by simp) (by simp; rfl) (by simp) ?_
          refine WN.op prg (by simp) (by simp; rfl) (by simp) ?_
          refine WN.keep [1, 2, 56] ?_
          refine WP.cond (by first | rfl | (simp; rfl)) (fun hb => ?_) (fun hb => ?_)
          · try simp at hb
            refine WP.seq ?_
            refine WP.reg prg (by kernel_rfl) ?_ -- region 18 DRAWS
            refine WS.d (by simp) (by simp; rfl) (by simp) (by kernel_rfl) ?_
            refine WS.d (by simp) (by simp; rfl) (by first | (simp; done) | (simp; omega)) (by kernel_rfl) ?_
            refine WS.d (by simp) (by simp; rfl) (by first | (simp; done) | (simp; omega)) (by kernel_rfl) ?_
            refine WS.d (by simp) (by simp; rfl) (by simp) (by kernel_rfl) ?_
            refine WS.d (by simp) (by simp; rfl) (by first | (simp; done) | (simp; omega)) (by kernel_rfl) ?_
            refine WS.d (by simp) (by simp; rfl) (by first | (simp; done) | (simp; omega)) (by kernel_rfl) ?_
            refine WS.d (by simp) (by simp; rfl) (by simp) (by kernel_rfl) ?_
            refine WS.d (by simp) (by simp; rfl) (by simp) (by kernel_rfl) ?_
            refine WS.d (by simp) (by simp; rfl) (by first | (simp; done) | (simp; omega)) (by kernel_rfl) ?_
            refine WS.d (by simp) (by simp; rfl) (by first | (simp; done) | (simp; omega)) (by kernel_rfl) ?_
            refine WS.d (by simp) (by simp; rfl) (by simp) (by kernel_rfl) ?_
            refine WS.d (by simp) (by simp; rfl) (by first | (simp; done) | (simp; omega)) (by kernel_rfl) ?_
            refine WS.d (by simp) (by simp; rfl) (by first | (simp; done) | (simp; omega)) (by kernel_rfl) ?_
            refine WS.d (by simp) (by simp; rfl) (by simp) (by kernel_rfl) ?_
            refine WS.d (by simp) (by simp; rfl) (by simp) (by kernel_rfl) ?_
            refine WS.d (by simp) (by simp; rfl) (by simp) (by kernel_rfl) ?_
            refine WS.d (by simp) (by simp; rfl) (by first | (simp; done) | (simp; omega)) (by kernel_rfl) ?_
            refine WS.d (by simp) (by simp; rfl) (by simp) (by kernel_rfl) ?_
            refine WS.d (by simp) (by simp; rfl) (by simp) (by kernel_rfl) ?_
            refine WS.keep [4] ?_
            refine WP.ret (DoneQ.ret [] (by simp; rfl) (by simp; rfl) ?_)
            refine ⟨rfl, ?_⟩
            obtain ⟨d1, d2⟩ := hv.get 0
            obtain ⟨d3, d4⟩ := hv.get 1
            rw [wrap_id (n := vs[0]?.getD 0 - vs[1]?.getD 0) (by omega) (by omega), wrap_id (n := vs[1]?.getD 0 - vs[0]?.getD 0) (by omega) (by omega)]
            have hq : r.kind = 5 := hb
            simp [holdsV, hq, beq_dec, Int.max_def]
            congr 1
            repeat' split
            all_goals omega
          · try simp at hb
            refine WP.skip ?_
            refine WP.seq ?_
            refine WP.regN prg (by kernel_rfl) ?_ -- region 19
            refine WN.op prg (by simp) (by simp; rfl) (by simp) ?_
            refine WN.keep [4] ?_
            refine WP.ret (DoneQ.ret [] (by simp; rfl) (by simp; rfl) ?_)
            have hkk : k = vs.length := by omega
            have h1 : r.kind = 1 := by omega
            have h2 := hnd h1
            rw [hkk, List.take_length] at h2
            exact ⟨rfl, by simp [holdsV, h1, h2]⟩
end Go.Proofs.Ytaicenafkjbnoaa

