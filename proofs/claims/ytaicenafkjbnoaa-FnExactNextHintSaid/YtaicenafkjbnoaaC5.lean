/- Contracts: values that stand twice in a line. -/
import Derived.Test.YtaicenafkjbnoaaC4
set_option linter.unusedVariables false
set_option linter.unusedSimpArgs false
namespace Go.Proofs.Ytaicenafkjbnoaa
open Go Go.AM
set_option maxRecDepth 100000

theorem grid_len {g : List Int} {n : Int} (hg : gridOk g n = true) : 4 ≤ g.length ∧ g.length ≤ 16 := by
  obtain ⟨h2, h4, hl⟩ := gridOk_size hg
  have := sq_bound h2 h4
  omega
theorem line_facts {g : List Int} {n : Int} (hg : gridOk g n = true) {k j : Nat} (hk : (k : Int) < IntKind.i64.wrap (2 * n)) (hj : j < (lineCells n k).length) :
    ∃ v, lineOk n k = true ∧ j < n.toNat ∧ 0 ≤ (lineCells n k)[j]?.getD 0 ∧ (lineCells n k)[j]?.getD 0 < g.length ∧ g[((lineCells n k)[j]?.getD 0).toNat]?.getD 0 = v ∧ (lineVals g n k)[j]? = some v ∧ 0 ≤ v ∧ v ≤ 4 := by
  obtain ⟨h2, h4, hl⟩ := gridOk_size hg
  rw [wrap2 h2 h4] at hk
  have hL : lineOk n k = true := lineOk_iff.2 ⟨h2, h4, by omega, hk⟩
  rw [lineCells_len hL] at hj
  have hc := lineCell_lt hL hj
  rw [lineCells_get hL hj, lineVals_get hL hj]
  have hv := gridOk_get hg (lineCell n k j).toNat
  refine ⟨_, hL, hj, by simpa using hc.1, by simp; omega, rfl, rfl, ?_, ?_⟩
  · exact hv.1
  · have := hv.2
    simp only [Option.getD_some]
    omega
theorem c_l2Clash (g : List Int) (n : Int) (hg : gridOk g n = true) : CallsA Try.prog 159 [.c (.dsl false (.ints .i64 (g))), .c (.int .i64 (n))] [] fun r ho => ho = [] ∧ r = .v (.c (.bool (clash g n))) := by
  refine CallsA.of (tv := tyOf Try.prog) (fn := Try.f159) prg.tv Try.func159 rfl rfl (by simp) ?_
  refine WP.seq ?_
  refine WP.regN prg (by kernel_rfl) ?_ -- region 0
  refine WN.op prg (by simp) (by simp; rfl) (by simp) ?_
  refine WN.keep [0, 1] ?_
  refine WP.seq ?_
  refine WP.seq ?_
  refine WP.regN prg (by kernel_rfl) ?_ -- region 1
  refine WN.op prg (by simp) (by simp; rfl) (by simp) ?_
  refine WN.keep [0, 1, 5] ?_
  refine WP.block ?_
  have hgl := grid_len hg
  obtain ⟨h2, h4, hl⟩ := gridOk_size hg
  refine WP.loopU ((2 * n).toNat) (fun k => [(5, .v (.c (.int .i64 (k))))]) (fun k => []) (fun k => (∀ l : Nat, l < k → clashL (lineVals g n l) = false)) (fun k => by simp [putAll]; rfl) (fun k => by simp; rfl) (by simp) (by simp) (by simp) ?_
  intro k hk hno
  refine WP.seq ?_
  refine WP.seq ?_
  refine WP.regN prg (by kernel_rfl) ?_ -- region 2
  refine WN.op prg (by simp) (by simp; rfl) (by simp) ?_
  refine WN.op prg (by simp) (by simp; rfl) (by simp) ?_
  refine WN.op prg (by simp) (by simp; rfl) (by simp) ?_
  refine WN.op prg (by simp) (by simp; rfl) (by simp) ?_
  refine WN.keep [0, 1, 5, 13] ?_
  refine WP.cond (by first | rfl | (simp; rfl)) (fun hb => ?_) (fun hb => ?_)
  · try simp at hb
    refine WP.skip ?_
    refine WP.seq ?_
    refine WP.block ?_
    refine WP.seq ?_
    refine WP.regN prg (by kernel_rfl) ?_ -- region 4
    refine WN.op prg (by simp) (by simp; rfl) (by simp) ?_
    refine WN.op prg (by simp) (by simp; rfl) (by simp) ?_
    have hbk := hb
    refine WN.call prg [] [] (by simp) rfl (by simp; rfl) (by simp) (CallsA.at (by simp) (by simp) (c_specLineCells n k)) ?_
    rintro _ _ ⟨rfl, rfl⟩
    refine ⟨_, by simp; rfl, ?_⟩
    refine WN.op prg (by simp) (by simp; rfl) (by simp) ?_
    refine WN.keep [0, 1, 5, 6] ?_
    refine WP.seq ?_
    refine WP.regN prg (by kernel_rfl) ?_ -- region 5
    refine WN.op prg (by simp) (by simp; rfl) (by simp) ?_
    refine WN.keep [0, 1, 5, 6, 7] ?_
    refine WP.seq ?_
    refine WP.regN prg (by kernel_rfl) ?_ -- region 6
    refine WN.op prg (by simp) (by simp; rfl) (by simp) ?_
    refine WN.keep [0, 1, 5, 6, 7, 8] ?_
    refine WP.block ?_
    refine WP.loopU (n.toNat) (fun j => [(7, .v (.c (.int .i64 (maskOf ((lineVals g n k).take j))))), (8, .v (.c (.int .i64 (j))))]) (fun j => []) (fun j => (clashL ((lineVals g n k).take j) = false)) (fun k => by simp [putAll]; rfl) (fun k => by simp; rfl) (by simp [clashL]) (by simp; decide) (by simp) ?_
    intro j hk hcl
    refine WP.seq ?_
    refine WP.seq ?_
    refine WP.regN prg (by kernel_rfl) ?_ -- region 7
    refine WN.op prg (by simp) (by simp; rfl) (by simp) ?_
    refine WN.op prg (by simp) (by simp; rfl) (by simp) ?_
    refine WN.op prg (by simp) (by simp; rfl) (by simp) ?_
    refine WN.op prg (by simp) (by simp; rfl) (by simp) ?_
    refine WN.keep [0, 1, 5, 6, 7, 8, 22] ?_
    refine WP.cond (by first | rfl | (simp; rfl)) (fun hb => ?_) (fun hb => ?_)
    · try simp at hb
      refine WP.skip ?_
      refine WP.seq ?_
      refine WP.block ?_
      refine WP.seq ?_
      refine WP.regN prg (by kernel_rfl) ?_ -- region 9
      obtain ⟨v, hL, hjn, hc0, hc1, hgv, hlv, hv0, hv4⟩ := line_facts hg hbk (by omega)
      refine WN.op prg (by simp) (by simp; rfl) (by simp) ?_
      refine WN.op prg (by simp) (by simp; rfl) (by simp) ?_
      refine WN.op prg (by simp) (by simp; rfl) (by simp) ?_
      refine WN.op prg (by simp) (by simp; rfl) (by first | (simp; done) | (simp; omega)) ?_
      refine WN.op prg (by simp) (by simp; rfl) (by first | (simp; done) | (simp; omega)) ?_
      refine WN.op prg (by simp) (by simp; rfl) (by first | (simp; done) | (simp; omega)) ?_
      refine WN.op prg (by simp) (by simp; rfl) (by first | (simp; done) | (simp; omega)) ?_
      rw [hgv]
      refine WN.op prg (by simp) (by simp; rfl) (by simp) ?_
      refine WN.keep [0, 1, 5, 6, 7, 8, 9] ?_
      refine WP.seq ?_
      refine WP.seq ?_
      refine WP.regN prg (by kernel_rfl) ?_ -- region 10
      refine WN.op prg (by simp) (by simp; rfl) (by simp) ?_
      refine WN.op prg (by simp) (by simp; rfl) (by simp) ?_
      refine WN.op prg (by simp) (by simp; rfl) (by simp) ?_
      apply WN.join (t := 40) 6 34
      · first | rfl | (simp; rfl)
      · intro hg34
        refine WN.op prg (by simp) (by simp; rfl) (by simp) ?_
        refine WN.op prg (by simp) (by simp; rfl) (by simp) ?_
        refine WN.op prg (by simp) (by simp; rfl) (by first | (simp; done) | (simp; omega)) ?_
        refine WN.op prg (by simp) (by simp; rfl) (by first | (simp; done) | (simp; omega)) ?_
        refine WN.op prg (by simp) (by simp; rfl) (by simp) ?_
        refine WN.op prg (by simp) (by simp; rfl) (by simp) ?_
        exact WN.keep [40, 0, 1, 5, 6, 7, 8, 9] rfl
      · intro hg34
        refine WN.skip prg (by simp) ?_
        refine WN.skip prg (by simp) ?_
        refine WN.skip prg (by simp) ?_
        refine WN.skip prg (by simp) ?_
        refine WN.skip prg (by simp) ?_
        refine WN.op prg (by simp) (by simp; rfl) (by simp) ?_
        exact WN.keep [40, 0, 1, 5, 6, 7, 8, 9] rfl
      refine WN.keep [0, 1, 5, 6, 7, 8, 9, 40] ?_
      refine WP.cond (by first | rfl | (simp; rfl)) (fun hb => ?_) (fun hb => ?_)
      · try simp at hb
        refine WP.seq ?_
        refine WP.regN prg (by kernel_rfl) ?_ -- region 11
        refine WN.op prg (by simp) (by simp; rfl) (by simp) ?_
        refine WN.keep [4] ?_
        refine WP.ret (DoneQ.ret [] (by simp; rfl) (by simp; rfl) ?_)
        have hm := mB_lt (decide (0 ∈ (lineVals g n k).take j)) (decide (1 ∈ (lineVals g n k).take j)) (decide (2 ∈ (lineVals g n k).take j)) (decide (3 ∈ (lineVals g n k).take j)) (decide (4 ∈ (lineVals g n k).take j))
        have h1 := bit_rem hm.1 hm.2 hv0 (by omega)
        change (decide (((maskOf ((lineVals g n k).take j)).fdiv (2 ^ (min v.toNat 64))).tmod 2 = 1)) = bit (maskOf _) v at h1
        rw [maskOf_bit hv0 (by omega), decide_eq_true hb.2] at h1
        have h2 := clashL_snoc (v := v) hcl
        rw [← h1, ← take_snoc hlv] at h2
        have := clash_of hL (clashL_take (h2.trans (by simp [pos, hb.1])))
        exact ⟨rfl, by simp [this]⟩
      · try simp at hb
        refine WP.skip ?_
        refine WP.regN prg (by kernel_rfl) ?_ -- region 12
        refine WN.op prg (by simp) (by simp; rfl) (by simp) ?_
        refine WN.op prg (by simp) (by simp; rfl) (by simp) ?_
        refine WN.op prg (by simp) (by simp; rfl) (by first | (simp; done) | (simp; omega)) ?_
        refine WN.op prg (by simp) (by simp; rfl) (by simp) ?_
        refine WN.op prg (by simp) (by simp; rfl) (by simp) ?_
        refine WN.keep [0, 1, 5, 6, 7, 8] ?_
        refine WP.regN prg (by kernel_rfl) ?_ -- region 8
        refine WN.op prg (by simp) (by simp; rfl) (by simp) ?_
        refine WN.op prg (by simp) (by simp; rfl) (by simp) ?_
        refine WN.op prg (by simp) (by simp; rfl) (by simp) ?_
        refine WN.keep [0, 1, 5, 6, 7, 8] ?_
        have hm := mB_lt (decide (0 ∈ (lineVals g n k).take j)) (decide (1 ∈ (lineVals g n k).take j)) (decide (2 ∈ (lineVals g n k).take j)) (decide (3 ∈ (lineVals g n k).take j)) (decide (4 ∈ (lineVals g n k).take j))
        have h1 := bit_rem hm.1 hm.2 hv0 (by omega)
        change (decide (((maskOf ((lineVals g n k).take j)).fdiv (2 ^ (min v.toNat 64))).tmod 2 = 1)) = bit (maskOf _) v at h1
        rw [maskOf_bit hv0 (by omega)] at h1
        have h2 := clashL_snoc (v := v) hcl
        rw [← h1, ← take_snoc hlv] at h2
        have h3 := shl_one' hv0 (by omega)
        have h4 := one_le hv0 (by omega)
        have h5 := bits_or (a := maskOf ((lineVals g n k).take j)) (b := one v) hm.1 (by have := hm.2; unfold maskOf; omega) (by omega) (by omega)
        refine ⟨by omega, h2.trans ?_, ?_⟩
        · simp only [pos, Bool.and_eq_false_imp, decide_eq_true_eq, decide_eq_false_iff_not]
          exact fun h => hb h
        · simp [h3, h5, maskOf_snoc hv0 (by omega), take_snoc hlv, wrap_id (n := (j : Int) + 1) (by omega) (by omega)]
    · try simp at hb
      refine WP.exit ?_
      refine WP.regN prg (by kernel_rfl) ?_ -- region 3
      refine WN.op prg (by simp) (by simp; rfl) (by simp) ?_
      refine WN.op prg (by simp) (by simp; rfl) (by simp) ?_
      refine WN.op prg (by simp) (by simp; rfl) (by simp) ?_
      refine WN.keep [0, 1, 5] ?_
      have hL : lineOk n k = true := lineOk_iff.2 ⟨h2, h4, by omega, by rw [wrap2 h2 h4] at hbk; exact hbk⟩
      rw [lineCells_len hL] at hb
      have hj : j = (lineVals g n k).length := by rw [lineVals_len hL]; omega
      rw [hj, List.take_length] at hcl
      refine ⟨by rw [wrap2 h2 h4] at hbk; omega, fun l hl => ?_, by simp [wrap_id (n := (k : Int) + 1) (by omega) (by omega)]⟩
      by_cases h : l = k
      · subst h; exact hcl
      · exact hno l (by omega)
  · try simp at hb
    refine WP.exit ?_
    refine WP.seq ?_
    refine WP.regN prg (by kernel_rfl) ?_ -- region 13
    refine WN.op prg (by simp) (by simp; rfl) (by simp) ?_
    refine WN.keep [4] ?_
    refine WP.ret (DoneQ.ret [] (by simp; rfl) (by simp; rfl) ?_)
    rw [wrap2 h2 h4] at hb
    have : clash g n = false := any_upto.2 fun l hl => hno l (by omega)
    exact ⟨rfl, by simp [this]⟩
def seenL (vs : List Int) : List Bool := [decide (0 ∈ vs), decide (1 ∈ vs), decide (2 ∈ vs), decide (3 ∈ vs), decide (4 ∈ vs)]
@[simp] theorem seenL_len (vs : List Int) : (seenL vs).length = 5 := rfl
theorem seenL_get {vs : List Int} {v : Int} (h0 : 0 ≤ v) (h : v ≤ 4) : (seenL vs)[v.toNat]?.getD false = decide (v ∈ vs) := by
  have : v = 0 ∨ v = 1 ∨ v = 2 ∨ v = 3 ∨ v = 4 := by omega
  rcases this with rfl | rfl | rfl | rfl | rfl <;> rfl
theorem seenL_set {vs : List Int} {v : Int} (h0 : 0 ≤ v) (h : v ≤ 4) : (seenL vs).set v.toNat true = seenL (vs ++ [v]) := by
  have : v = 0 ∨ v = 1 ∨ v = 2 ∨ v = 3 ∨ v = 4 := by omega
  rcases this with rfl | rfl | rfl | rfl | rfl <;> simp [seenL]
theorem c_implSquareFits (g : List Int) (n : Int) (hl : g.length ≤ 140737488355328) : CallsA Try.prog 131 [.c (.dsl false (.ints .i64 (g))), .c (.int .i64 (n))] [] fun r ho => ho = [] ∧ r = .v (.c (.bool (squareFits g n))) := by
  refine CallsA.of (tv := tyOf Try.prog) (fn := Try.f131) prg.tv Try.func131 rfl rfl (by simp) ?_
  refine WP.seq ?_
  refine WP.regN prg (by kernel_rfl) ?_ -- region 0
  refine WN.op prg (by simp) (by simp; rfl) (by simp) ?_
  refine WN.keep [0, 1] ?_
  refine WP.seq ?_
  refine WP.seq ?_
  refine WP.regN prg (by kernel_rfl) ?_ -- region 1
  refine WN.op prg (by simp) (by simp; rfl) (by simp) ?_
  refine WN.op prg (by simp) (by simp; rfl) (by simp) ?_
  refine WN.call prg [] [] (by simp) rfl (by simp; rfl) (by simp) (CallsA.at (by simp) (by simp) (c_implGridValid g n hl)) ?_
  rintro _ _ ⟨rfl, rfl⟩
  refine ⟨_, by simp; rfl, ?_⟩
  refine WN.op prg (by simp) (by simp; rfl) (by simp) ?_
  refine WN.keep [0, 1, 12] ?_
  refine WP.cond (by first | rfl | (simp; rfl)) (fun hb => ?_) (fun hb => ?_)
  · try simp at hb
    refine WP.seq ?_
    refine WP.regN prg (by kernel_rfl) ?_ -- region 2
    refine WN.op prg (by simp) (by simp; rfl) (by simp) ?_
    refine WN.keep [4] ?_
    refine WP.ret (DoneQ.ret [] (by simp; rfl) (by simp; rfl) ?_)
    exact ⟨rfl, by simp [squareFits, hb]⟩
  · try simp at hb
    refine WP.skip ?_
    refine WP.seq ?_
    refine WP.seq ?_
    refine WP.regN prg (by kernel_rfl) ?_ -- region 3
    refine WN.op prg (by simp) (by simp; rfl) (by simp) ?_
    refine WN.op prg (by simp) (by simp; rfl) (by simp) ?_
    refine WN.op prg (by simp) (by simp; rfl) (by simp) ?_
    refine WN.keep [0, 1, 14, 15] ?_
    refine WP.block ?_
    have hg := hb
    have hgl := grid_len hg
    obtain ⟨h2, h4, hll⟩ := gridOk_size hg
    refine WP.loopU ((2 * n).toNat) (fun k => [(15, .v (.c (.int .i64 (k))))]) (fun k => []) (fun k => (∀ l : Nat, l < k → clashL (lineVals g n l) = false)) (fun k => by simp [putAll]; rfl) (fun k => by simp; rfl) (by simp) (by simp) (by simp) ?_
    intro k hk hno
    refine WP.seq ?_
    refine WP.regN prg (by kernel_rfl) ?_ -- region 4
    refine WN.op prg (by simp) (by simp; rfl) (by simp) ?_
    refine WN.keep [0, 1, 14, 15, 16] ?_
    refine WP.seq ?_
    refine WP.cond (by first | rfl | (simp; rfl)) (fun hb => ?_) (fun hb => ?_)
    · try simp at hb
      refine WP.skip ?_
      refine WP.seq ?_
      refine WP.block ?_
      refine WP.seq ?_
      refine WP.regN prg (by kernel_rfl) ?_ -- region 5
      refine WN.op prg (by simp) (by simp; rfl) (by simp) ?_
      refine WN.op prg (by simp) (by simp; rfl) (by simp) ?_
      refine WN.keep [0, 1, 5, 14, 15] ?_
      refine WP.seq ?_
      refine WP.regN prg (by kernel_rfl) ?_ -- region 6
      refine WN.zeroArr prg (by simp) (by simp; rfl) rfl ⟨_, by simp; rfl⟩ ?_
      refine WN.op prg (by simp) (by simp; rfl) (by simp) ?_
      refine WN.storeArr (id := 48) (ver := 0) (fr := true) (l := [false, false, false, false, false]) (l' := [false, false, false, false, false]) (cs := [.bool false, .bool false, .bool false, .bool false, .bool false]) prg (by simp) (by simp; rfl) (by simp) (by simp) (by simp) (by simp [allB]) (by simp) ?_
      refine WN.keep [0, 1, 5, 6, 14, 15] ?_
      refine WP.seq ?_
      refine WP.regN prg (by kernel_rfl) ?_ -- region 7
      refine WN.op prg (by simp) (by simp; rfl) (by simp) ?_
      refine WN.op prg (by simp) (by simp; rfl) (by simp) ?_
      have hbk := hb
      refine WN.call prg [] [] (by simp) rfl (by simp; rfl) (by simp) (CallsA.at (by simp) (by simp) (c_implLineCells n k)) ?_
      rintro _ _ ⟨rfl, rfl⟩
      refine ⟨_, by simp; rfl, ?_⟩
      refine WN.op prg (by simp) (by simp; rfl) (by simp) ?_
      refine WN.op prg (by simp) (by simp; rfl) (by simp) ?_
      refine WN.keep [0, 1, 6, 14, 15, 21, 22, 23] ?_
      refine WP.block ?_
      refine WP.loopU (n.toNat) (fun j => [(23, .v (.c (.int .i64 (j))))]) (fun j => [(48, .arr 0 true (.bools (seenL ((lineVals g n k).take j))))]) (fun j => (clashL ((lineVals g n k).take j) = false)) (fun k => by simp [putAll]; rfl) (fun k => by simp; rfl) (by simp [clashL]) (by simp) (by simp [seenL]) ?_
      intro j hk hcl
      refine WP.seq ?_
      refine WP.regN prg (by kernel_rfl) ?_ -- region 8
      refine WN.op prg (by simp) (by simp; rfl) (by simp) ?_
      refine WN.keep [0, 1, 6, 14, 15, 21, 22, 23, 24] ?_
      refine WP.seq ?_
      refine WP.cond (by first | rfl | (simp; rfl)) (fun hb => ?_) (fun hb => ?_)
      · try simp at hb
        refine WP.skip ?_
        refine WP.seq ?_
        refine WP.block ?_
        refine WP.seq ?_
        refine WP.regN prg (by kernel_rfl) ?_ -- region 9
        obtain ⟨v, hL, hjn, hc0, hc1, hgv, hlv, hv0, hv4⟩ := line_facts hg hbk (by omega)
        refine WN.op prg (by simp) (by simp; rfl) (by first | (simp; done) | (simp; omega)) ?_
        refine WN.op prg (by simp) (by simp; rfl) (by first | (simp; done) | (simp; omega)) ?_
        refine WN.op prg (by simp) (by simp; rfl) (by simp) ?_
        refine WN.keep [0, 1, 6, 8, 14, 15, 21, 22, 23] ?_
        refine WP.seq ?_
        refine WP.seq ?_
        refine WP.regN prg (by kernel_rfl) ?_ -- region 10
        refine WN.op prg (by simp) (by simp; rfl) (by simp) ?_
        refine WN.op prg (by simp) (by simp; rfl) (by simp) ?_
        refine WN.op prg (by simp) (by simp; rfl) (by first | (simp; done) | (simp; omega)) ?_
        refine WN.op prg (by simp) (by simp; rfl) (by first | (simp; done) | (simp; omega)) ?_
        refine WN.op prg (by simp) (by simp; rfl) (by simp) ?_
        refine WN.op prg (by simp) (by simp; rfl) (by simp) ?_
        apply WN.join (t := 39) 7 32
        · first | rfl | (simp; rfl)
        · intro hg32
          refine WN.op prg (by simp) (by simp; rfl) (by simp) ?_
          refine WN.op prg (by simp) (by simp; rfl) (by simp) ?_
          refine WN.op prg (by simp) (by simp; rfl) (by first | (simp; done) | (simp; omega)) ?_
          refine WN.op prg (by simp) (by simp; rfl) (by first | (simp; done) | (simp; omega)) ?_
          refine WN.op prg (by simp) (by simp; rfl) (by first | (simp; done) | (simp; omega)) ?_
          refine WN.op prg (by simp) (by simp; rfl) (by first | (simp; done) | (simp; omega)) ?_
          refine WN.op prg (by simp) (by simp; rfl) (by simp) ?_
          exact WN.keep [39, 0, 1, 6, 8, 14, 15, 21, 22, 23] rfl
        · intro hg32
          refine WN.skip prg (by simp) ?_
          refine WN.skip prg (by simp) ?_
          refine WN.skip prg (by simp) ?_
          refine WN.skip prg (by simp) ?_
          refine WN.skip prg (by simp) ?_
          refine WN.skip prg (by simp) ?_
          refine WN.op prg (by simp) (by simp; rfl) (by simp) ?_
          exact WN.keep [39, 0, 1, 6, 8, 14, 15, 21, 22, 23] rfl
        refine WN.keep [0, 1, 6, 8, 14, 15, 21, 22, 23, 39] ?_
        refine WP.cond (by first | rfl | (simp; rfl)) (fun hb => ?_) (fun hb => ?_)
        · try simp at hb
          refine WP.seq ?_
          refine WP.regN prg (by kernel_rfl) ?_ -- region 11
          refine WN.op prg (by simp) (by simp; rfl) (by simp) ?_
          refine WN.keep [4] ?_
          refine WP.ret (DoneQ.ret [] (by simp; rfl) (by simp; rfl) ?_)
          rw [hgv] at hb
          have h2 := clashL_snoc (v := v) hcl
          rw [← seenL_get hv0 hv4, ← take_snoc hlv] at h2
          have := clash_of hL (clashL_take (h2.trans (by simp [pos, hb.1, hb.2])))
          exact ⟨rfl, by simp [squareFits, this]⟩
        · try simp at hb
          refine WP.skip ?_
          refine WP.regN prg (by kernel_rfl) ?_ -- region 12
          refine WN.op prg (by simp) (by simp; rfl) (by simp) ?_
          refine WN.op prg (by simp) (by simp; rfl) (by simp) ?_
          refine WN.op prg (by simp) (by simp; rfl) (by first | (simp; done) | (simp; omega)) ?_
          refine WN.op prg (by simp) (by simp; rfl) (by first | (simp; done) | (simp; omega)) ?_
          refine WN.op prg (by simp) (by simp; rfl) (by first | (simp; done) | (simp; omega)) ?_
          refine WN.op prg (by simp) (by simp; rfl) (by first | (simp; done) | (simp; omega)) ?_
          refine WN.keep [0, 1, 6, 14, 15, 21, 22, 23] ?_
          refine WP.regN prg (by kernel_rfl) ?_ -- region 13
          refine WN.op prg (by simp) (by simp; rfl) (by simp) ?_
          refine WN.op prg (by simp) (by simp; rfl) (by simp) ?_
          refine WN.keep [0, 1, 6, 14, 15, 21, 22, 23] ?_
          rw [hgv] at hb
          have h2 := clashL_snoc (v := v) hcl
          refine ⟨by omega, ?_, ?_⟩
          · rw [← take_snoc hlv] at h2
            rw [h2]
            rw [← seenL_get hv0 hv4]
            simp [pos]
            exact hb
          · simp [hgv, seenL_set hv0 hv4, take_snoc hlv, wrap_id (n := (j : Int) + 1) (by omega) (by omega)]
      · try simp at hb
        refine WP.exit ?_
        refine WP.regN prg (by kernel_rfl) ?_ -- region 14
        refine WN.tidy [0, 1, 14, 15] [] (by simp; rfl) ?_
        refine WN.op prg (by simp) (by simp; rfl) (by simp) ?_
        refine WN.op prg (by simp) (by simp; rfl) (by simp) ?_
        refine WN.keep [0, 1, 14, 15] ?_
        have hL : lineOk n k = true := lineOk_iff.2 ⟨h2, h4, by omega, by rw [wrap2 h2 h4] at hbk; exact hbk⟩
        rw [lineCells_len hL] at hb
        have hj : j = (lineVals g n k).length := by rw [lineVals_len hL]; omega
        rw [hj, List.take_length] at hcl
        refine ⟨by rw [wrap2 h2 h4] at hbk; omega, fun l hl => ?_, by simp [wrap_id (n := (k : Int) + 1) (by omega) (by omega)]⟩
        by_cases h : l = k
        · subst h; exact hcl
        · exact hno l (by omega)
    · try simp at hb
      refine WP.exit ?_
      refine WP.seq ?_
      refine WP.regN prg (by kernel_rfl) ?_ -- region 15
      refine WN.op prg (by simp) (by simp; rfl) (by simp) ?_
      refine WN.keep [4] ?_
      refine WP.ret (DoneQ.ret [] (by simp; rfl) (by simp; rfl) ?_)
      rw [wrap2 h2 h4] at hb
      have : clash g n = false := any_upto.2 fun l hl => hno l (by omega)
      exact ⟨rfl, by simp [squareFits, this, hg]⟩
end Go.Proofs.Ytaicenafkjbnoaa

