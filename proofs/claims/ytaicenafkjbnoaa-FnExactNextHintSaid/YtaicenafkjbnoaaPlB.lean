/- Plain facts: what the machine's operations on bits come to on small numbers; lines. -/
import Derived.Test.YtaicenafkjbnoaaAmZd
import Derived.Test.YtaicenafkjbnoaaPlA
set_option linter.unusedVariables false
set_option linter.unusedSimpArgs false
namespace Go.Proofs.Ytaicenafkjbnoaa
open Go Go.AM

theorem beq_dec (a b : Int) : (a == b) = decide (a = b) := by by_cases h : a = b <;> simp [h]
/-! ### Bits -/
@[simp] theorem bits64 : IntKind.i64.bits = 64 := rfl
theorem ofInt_nat (x : Nat) : BitVec.ofInt 64 (x : Int) = BitVec.ofNat 64 x := by simp
theorem bits_or {a b : Int} (ha : 0 ≤ a) (ha' : a < 1000) (hb : 0 ≤ b) (hb' : b < 1000) : bitsI .or .i64 a b = orI a b := by
  obtain ⟨x, rfl⟩ := Int.eq_ofNat_of_zero_le ha
  obtain ⟨y, rfl⟩ := Int.eq_ofNat_of_zero_le hb
  have h1 : (BitVec.ofNat 64 x ||| BitVec.ofNat 64 y).toNat = x ||| y := by
    rw [BitVec.toNat_or, BitVec.toNat_ofNat, BitVec.toNat_ofNat, Nat.mod_eq_of_lt (by omega), Nat.mod_eq_of_lt (by omega)]
  have h2 : x ||| y < 2 ^ 10 := Nat.or_lt_two_pow (by omega) (by omega)
  show IntKind.i64.wrap (BitVec.ofInt 64 (x : Int) ||| BitVec.ofInt 64 (y : Int)).toNat = _
  rw [ofInt_nat, ofInt_nat, h1, wrap_id (by omega) (by omega)]
  simp [orI]
theorem bits_and {a b : Int} (ha : 0 ≤ a) (ha' : a < 1000) (hb : 0 ≤ b) (hb' : b < 1000) : bitsI .and .i64 a b = andI a b := by
  obtain ⟨x, rfl⟩ := Int.eq_ofNat_of_zero_le ha
  obtain ⟨y, rfl⟩ := Int.eq_ofNat_of_zero_le hb
  have h1 : (BitVec.ofNat 64 x &&& BitVec.ofNat 64 y).toNat = x &&& y := by
    rw [BitVec.toNat_and, BitVec.toNat_ofNat, BitVec.toNat_ofNat, Nat.mod_eq_of_lt (by omega), Nat.mod_eq_of_lt (by omega)]
  have h2 : x &&& y ≤ x := Nat.and_le_left
  show IntKind.i64.wrap (BitVec.ofInt 64 (x : Int) &&& BitVec.ofInt 64 (y : Int)).toNat = _
  rw [ofInt_nat, ofInt_nat, h1, wrap_id (by omega) (by omega)]
  simp [andI]
theorem fin_all {p : Int → Prop} {N : Nat} (h : ∀ i : Fin N, p ((i.val : Nat) : Int)) {a : Int} (ha : 0 ≤ a) (hb : a < N) : p a := by
  obtain ⟨x, rfl⟩ := Int.eq_ofNat_of_zero_le ha
  exact h ⟨x, by omega⟩
theorem fin_all2 {p : Int → Int → Prop} {M N : Nat} (h : ∀ (i : Fin M) (j : Fin N), p ((i.val : Nat) : Int) ((j.val : Nat) : Int)) {a b : Int} (ha : 0 ≤ a) (ha' : a < M) (hb : 0 ≤ b) (hb' : b < N) : p a b := by
  obtain ⟨x, rfl⟩ := Int.eq_ofNat_of_zero_le ha
  obtain ⟨y, rfl⟩ := Int.eq_ofNat_of_zero_le hb
  exact h ⟨x, by omega⟩ ⟨y, by omega⟩
theorem bits_andNot {a b : Int} (ha : 0 ≤ a) (ha' : a < 32) (hb : 0 ≤ b) (hb' : b < 32) : bitsI .andNot .i64 a b = subI a b :=
  fin_all2 (p := fun a b => bitsI .andNot .i64 a b = subI a b) (M := 32) (N := 32) (by decide +kernel) ha ha' hb hb'
theorem shl_one {v : Int} (h0 : 0 ≤ v) (h : v < 60) : IntKind.i64.wrap (1 * 2 ^ (min v.toNat 64)) = one v :=
  fin_all (p := fun v => IntKind.i64.wrap (1 * 2 ^ (min v.toNat 64)) = one v) (N := 60) (by decide +kernel) h0 h
theorem shl_one' {v : Int} (h0 : 0 ≤ v) (h : v < 60) : IntKind.i64.wrap (2 ^ (min v.toNat 64)) = one v := by
  have := shl_one h0 h
  rwa [Int.one_mul] at this
theorem bit_rem {m v : Int} (h0 : 0 ≤ m) (h1 : m < 32) (h2 : 0 ≤ v) (h3 : v < 6) : (decide ((m.fdiv (2 ^ (min v.toNat 64))).tmod 2 = 1)) = bit m v :=
  fin_all2 (p := fun m v => decide ((m.fdiv (2 ^ (min v.toNat 64))).tmod 2 = 1) = bit m v) (M := 32) (N := 6) (by decide +kernel) h0 h1 h2 h3
theorem bit_and1 {m v : Int} (h0 : 0 ≤ m) (h1 : m < 32) (h2 : 0 ≤ v) (h3 : v < 6) : (decide (bitsI .and .i64 (m.fdiv (2 ^ (min v.toNat 64))) 1 = 1)) = bit m v :=
  fin_all2 (p := fun m v => decide (bitsI .and .i64 (m.fdiv (2 ^ (min v.toNat 64))) 1 = 1) = bit m v) (M := 32) (N := 6) (by decide +kernel) h0 h1 h2 h3
theorem shl_k {k : Nat} (h : k < 50) : IntKind.i64.wrap (2 ^ (min (k + 1) 64)) = one ((k : Int) + 1) := by
  have := shl_one' (v := (k : Int) + 1) (by omega) (by omega)
  rwa [show ((k : Int) + 1).toNat = k + 1 by omega] at this
theorem bit_rem_k {m : Int} {k : Nat} (h0 : 0 ≤ m) (h1 : m < 32) (h : k < 5) : (decide ((m.fdiv (2 ^ (min (k + 1) 64))).tmod 2 = 1)) = bit m ((k : Int) + 1) := by
  have := bit_rem h0 h1 (v := (k : Int) + 1) (by omega) (by omega)
  rwa [show ((k : Int) + 1).toNat = k + 1 by omega] at this
theorem bit_and1_k {m : Int} {k : Nat} (h0 : 0 ≤ m) (h1 : m < 32) (h : k < 5) : (decide (bitsI .and .i64 (m.fdiv (2 ^ (min (k + 1) 64))) 1 = 1)) = bit m ((k : Int) + 1) := by
  have := bit_and1 h0 h1 (v := (k : Int) + 1) (by omega) (by omega)
  rwa [show ((k : Int) + 1).toNat = k + 1 by omega] at this
theorem one_le {v : Int} (h0 : 0 ≤ v) (h : v < 5) : 1 ≤ one v ∧ one v ≤ 16 := fin_all (p := fun v => 1 ≤ one v ∧ one v ≤ 16) (N := 5) (by decide +kernel) h0 h
theorem one_even {v : Int} (h0 : 1 ≤ v) (h : v < 5) : one v % 2 = 0 := by
  have : v = 1 ∨ v = 2 ∨ v = 3 ∨ v = 4 := by omega
  rcases this with rfl | rfl | rfl | rfl <;> decide
theorem orI_lt {a b : Int} (ha' : a < 32) (hb' : b < 32) : 0 ≤ orI a b ∧ orI a b < 32 := by
  have h2 : a.toNat ||| b.toNat < 2 ^ 5 := Nat.or_lt_two_pow (by omega) (by omega)
  unfold orI
  omega
theorem subI_le {a b : Int} (ha : 0 ≤ a) : 0 ≤ subI a b ∧ subI a b ≤ a := by
  unfold subI
  omega
theorem andI_le {a b : Int} (ha : 0 ≤ a) : 0 ≤ andI a b ∧ andI a b ≤ a := by
  have : a.toNat &&& b.toNat ≤ a.toNat := Nat.and_le_left
  unfold andI
  omega

/-! ### Sets of values as bits -/
def mB (a b c d e : Bool) : Int := (if a then 1 else 0) + (if b then 2 else 0) + (if c then 4 else 0) + (if d then 8 else 0) + (if e then 16 else 0)
def maskOf (vs : List Int) : Int := mB (decide (0 ∈ vs)) (decide (1 ∈ vs)) (decide (2 ∈ vs)) (decide (3 ∈ vs)) (decide (4 ∈ vs))
theorem mB_lt (a b c d e : Bool) : 0 ≤ mB a b c d e ∧ mB a b c d e < 32 := by revert a b c d e; decide
theorem maskOf_bit {vs : List Int} {v : Int} (h0 : 0 ≤ v) (h : v < 5) : bit (maskOf vs) v = decide (v ∈ vs) := by
  have key : ∀ a b c d e : Bool, bit (mB a b c d e) 0 = a ∧ bit (mB a b c d e) 1 = b ∧ bit (mB a b c d e) 2 = c ∧ bit (mB a b c d e) 3 = d ∧ bit (mB a b c d e) 4 = e := by decide +kernel
  obtain ⟨k0, k1, k2, k3, k4⟩ := key (decide (0 ∈ vs)) (decide (1 ∈ vs)) (decide (2 ∈ vs)) (decide (3 ∈ vs)) (decide (4 ∈ vs))
  have : v = 0 ∨ v = 1 ∨ v = 2 ∨ v = 3 ∨ v = 4 := by omega
  rcases this with rfl | rfl | rfl | rfl | rfl <;> assumption
theorem maskOf_snoc {vs : List Int} {v : Int} (h0 : 0 ≤ v) (h : v < 5) : orI (maskOf vs) (one v) = maskOf (vs ++ [v]) := by
  have key : ∀ a b c d e : Bool, orI (mB a b c d e) (one 0) = mB true b c d e ∧ orI (mB a b c d e) (one 1) = mB a true c d e ∧ orI (mB a b c d e) (one 2) = mB a b true d e ∧ orI (mB a b c d e) (one 3) = mB a b c true e ∧ orI (mB a b c d e) (one 4) = mB a b c d true := by decide +kernel
  obtain ⟨k0, k1, k2, k3, k4⟩ := key (decide (0 ∈ vs)) (decide (1 ∈ vs)) (decide (2 ∈ vs)) (decide (3 ∈ vs)) (decide (4 ∈ vs))
  have : v = 0 ∨ v = 1 ∨ v = 2 ∨ v = 3 ∨ v = 4 := by omega
  rcases this with rfl | rfl | rfl | rfl | rfl <;> simp [maskOf, *]

/-! ### Lines -/
theorem lineOk_iff {n line : Int} : lineOk n line = true ↔ 2 ≤ n ∧ n ≤ 4 ∧ 0 ≤ line ∧ line < 2 * n := by simp [lineOk, and_assoc]
theorem lineCells_len {n line : Int} (h : lineOk n line = true) : (lineCells n line).length = n.toNat := by simp [lineCells, h]
theorem lineCells_get {n line : Int} (h : lineOk n line = true) {k : Nat} (hk : k < n.toNat) : (lineCells n line)[k]? = some (lineCell n line k) := by
  simp [lineCells, h, hk]
theorem lineCell_lt {n line : Int} {k : Nat} (h : lineOk n line = true) (hk : k < n.toNat) : 0 ≤ lineCell n line k ∧ lineCell n line k < n * n := by
  obtain ⟨h1, h2, h3, h4⟩ := lineOk_iff.1 h
  have : n = 2 ∨ n = 3 ∨ n = 4 := by omega
  unfold lineCell
  rcases this with rfl | rfl | rfl <;> (split <;> omega)
theorem lineVals_get {g : List Int} {n line : Int} (h : lineOk n line = true) {k : Nat} (hk : k < n.toNat) : (lineVals g n line)[k]? = some (getI g (lineCell n line k)) := by
  simp [lineVals, lineCells_get h hk]
theorem lineVals_len {g : List Int} {n line : Int} (h : lineOk n line = true) : (lineVals g n line).length = n.toNat := by simp [lineVals, lineCells_len h]
theorem take_snoc {α : Type} {l : List α} {k : Nat} {x : α} (h : l[k]? = some x) : l.take (k + 1) = l.take k ++ [x] := by rw [List.take_add_one, h]; rfl
theorem any_upto {p : Nat → Bool} {N : Nat} : (List.range N).any p = false ↔ ∀ k, k < N → p k = false := by
  simp
theorem clashL_snoc {vs : List Int} {v : Int} (h : clashL vs = false) : clashL (vs ++ [v]) = (pos v && decide (v ∈ vs)) := by
  unfold clashL at *
  simp only [Bool.not_eq_false', decide_eq_true_eq] at h
  rw [List.filter_append]
  by_cases hp : pos v = true
  · simp only [List.filter_cons, hp, if_true, List.filter_nil, Bool.true_and]
    have hnd : (vs.filter pos ++ [v]).Nodup ↔ v ∉ vs := by
      rw [List.nodup_append]
      constructor
      · rintro ⟨_, _, h3⟩ hm
        exact h3 v (List.mem_filter.2 ⟨hm, hp⟩) v (by simp) rfl
      · intro hm
        exact ⟨h, by simp, fun a ha b hb e => hm (by simp at hb; subst hb; exact e ▸ (List.mem_filter.1 ha).1)⟩
    by_cases hm : v ∈ vs <;> simp [hnd, hm]
  · have hp' : pos v = false := by simpa using hp
    simp [List.filter_cons, hp', h]
theorem clashL_take {vs : List Int} {k : Nat} (h : clashL (vs.take k) = true) : clashL vs = true := by
  unfold clashL at *
  simp only [Bool.not_eq_true', decide_eq_false_iff_not] at *
  intro hn
  refine h (hn.sublist ?_)
  exact (List.take_sublist k vs).filter pos
theorem clash_of {g : List Int} {n line : Int} (h : lineOk n line = true) (hc : clashL (lineVals g n line) = true) : clash g n = true := by
  obtain ⟨h1, h2, h3, h4⟩ := lineOk_iff.1 h
  unfold clash
  rw [List.any_eq_true]
  refine ⟨line.toNat, by simp; omega, ?_⟩
  rw [Int.toNat_of_nonneg h3]
  exact hc
end Go.Proofs.Ytaicenafkjbnoaa
