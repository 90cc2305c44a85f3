/- Plain facts: techniques only take values away. -/
import Derived.Test.YtaicenafkjbnoaaPlB
set_option linter.unusedVariables false
set_option linter.unusedSimpArgs false
namespace Go.Proofs.Ytaicenafkjbnoaa
open Go Go.AM

theorem masksOk_iff' {ms : List Int} {n : Int} : masksOk ms n = true ↔ 2 ≤ n ∧ n ≤ 4 ∧ (ms.length : Int) = n * n ∧ ∀ m ∈ ms, maskOk n m = true := by simp [masksOk, and_assoc]
/-- A part of a mask. -/
def Sub (a b : Int) : Prop := 0 ≤ a ∧ andI a b = a
theorem Sub.refl {a : Int} (h : 0 ≤ a) : Sub a a := ⟨h, by unfold andI; rw [Nat.and_self]; omega⟩
theorem andI_toNat (a b : Int) : (andI a b).toNat = a.toNat &&& b.toNat := by simp [andI]
theorem Sub.trans {a b c : Int} (h : Sub a b) (h' : Sub b c) : Sub a c := by
  refine ⟨h.1, ?_⟩
  have h1 := congrArg Int.toNat h.2
  have h2 := congrArg Int.toNat h'.2
  rw [andI_toNat] at h1 h2
  have : a.toNat &&& c.toNat = a.toNat := by rw [← h1, Nat.and_assoc, h2]
  unfold andI
  rw [this]
  have := h.1
  omega
theorem Sub.le {a b : Int} (h : Sub a b) (hb : 0 ≤ b) : a ≤ b := by
  have h1 := congrArg Int.toNat h.2
  rw [andI_toNat] at h1
  have : a.toNat &&& b.toNat ≤ b.toNat := Nat.and_le_right
  have := h.1
  omega
theorem sub_subI {a b : Int} (ha : 0 ≤ a) (ha' : a < 32) : Sub (subI a b) a := by
  refine ⟨by unfold subI; omega, ?_⟩
  have h1 : ∀ x y : Int, 0 ≤ x → x < 32 → 0 ≤ y → y < 32 → andI (subI x y) x = subI x y := fun x y h1 h2 h3 h4 =>
    fin_all2 (p := fun x y => andI (subI x y) x = subI x y) (M := 32) (N := 32) (by decide +kernel) h1 h2 h3 h4
  have h2 : subI a b = subI a (andI b 31) := by
    unfold subI
    rw [andI_toNat]
    have h31 : a.toNat &&& 31 = a.toNat := by
      rw [show (31 : Nat) = 2 ^ 5 - 1 by decide, Nat.and_two_pow_sub_one_eq_mod, Nat.mod_eq_of_lt (by omega)]
    have : a.toNat &&& (b.toNat &&& (31 : Int).toNat) = a.toNat &&& b.toNat := by
      rw [← Nat.and_assoc, Nat.and_assoc, Nat.and_comm b.toNat, ← Nat.and_assoc]
      rw [show (31 : Int).toNat = 31 by decide, h31]
    rw [this]
  have h3 : 0 ≤ andI b 31 ∧ andI b 31 < 32 := by
    have : b.toNat &&& 31 ≤ 31 := Nat.and_le_right
    unfold andI
    simp only [show (31 : Int).toNat = 31 by decide]
    omega
  rw [h2]
  exact h1 a _ ha ha' h3.1 h3.2
theorem sub_andI {a b : Int} (ha : 0 ≤ a) : Sub (andI a b) a := by
  refine ⟨by unfold andI; omega, ?_⟩
  unfold andI
  simp only [Int.toNat_natCast]
  rw [Nat.and_comm a.toNat, Nat.and_assoc, Nat.and_self]
theorem sub_or {a b v : Int} (h : Sub a b) (hb : b < 32) (hb0 : 0 ≤ b) (hv : 0 ≤ v) (hv4 : v < 5) (hbit : bit b v = true) : Sub (orI a (one v)) b := by
  have hw : andI (one v) b = one v := fin_all2 (p := fun b v => bit b v = true → andI (one v) b = one v) (M := 32) (N := 5) (by decide +kernel) hb0 hb hv hv4 hbit
  have h1 := congrArg Int.toNat h.2
  have h2 := congrArg Int.toNat hw
  rw [andI_toNat] at h1 h2
  refine ⟨by unfold orI; omega, ?_⟩
  unfold andI orI
  simp only [Int.toNat_natCast]
  rw [Nat.and_or_distrib_right, h1, h2]
theorem sub_mask {n a b : Int} (h : Sub a b) (hb : maskOk n b = true) : maskOk n a = true := by
  simp only [maskOk, Bool.and_eq_true, decide_eq_true_eq] at *
  have hle := h.le hb.1.1
  refine ⟨⟨h.1, by omega⟩, ?_⟩
  have h1 := congrArg Int.toNat h.2
  rw [andI_toNat] at h1
  have h2 : b.toNat % 2 = 0 := by omega
  have h3 : (a.toNat &&& b.toNat) % 2 = 0 := by
    have e : (a.toNat &&& b.toNat) % 2 = (a.toNat &&& b.toNat) &&& 1 := by rw [show (1 : Nat) = 2 ^ 1 - 1 by decide, Nat.and_two_pow_sub_one_eq_mod]
    have e2 : b.toNat &&& 1 = 0 := by rw [show (1 : Nat) = 2 ^ 1 - 1 by decide, Nat.and_two_pow_sub_one_eq_mod]; omega
    rw [e, Nat.and_assoc, e2, Nat.and_zero]
  have := h.1
  omega
/-- Masks cell by cell. -/
def SubL (a b : List Int) : Prop := a.length = b.length ∧ ∀ i : Nat, Sub (a[i]?.getD 0) (b[i]?.getD 0)
theorem SubL.trans {a b c : List Int} (h : SubL a b) (h' : SubL b c) : SubL a c := ⟨h.1.trans h'.1, fun i => (h.2 i).trans (h'.2 i)⟩
theorem SubL.set {a b : List Int} (h : SubL a b) (k : Nat) {v : Int} (hv : Sub v (a[k]?.getD 0)) : SubL (a.set k v) b := by
  refine ⟨by simp [h.1], fun i => ?_⟩
  rw [List.getElem?_set]
  split
  · rename_i e
    subst e
    split
    · exact hv.trans (h.2 k)
    · rename_i hk
      have h2 := h.2 k
      rw [List.getElem?_eq_none (show a.length ≤ k by omega)] at h2
      exact h2
  · exact h.2 i
theorem mask_lt {n m : Int} (h2 : 2 ≤ n) (h4 : n ≤ 4) (h : maskOk n m = true) : 0 ≤ m ∧ m < 32 := by
  simp only [maskOk, Bool.and_eq_true, decide_eq_true_eq] at h
  have h3 : allV n ≤ 30 := by
    have : n = 2 ∨ n = 3 ∨ n = 4 := by omega
    rcases this with rfl | rfl | rfl <;> decide
  omega
theorem masks_get {ms : List Int} {n : Int} (h : masksOk ms n = true) (k : Nat) : maskOk n (ms[k]?.getD 0) = true ∧ 0 ≤ ms[k]?.getD 0 ∧ ms[k]?.getD 0 < 32 := by
  obtain ⟨h2, h4, hl, hall⟩ := masksOk_iff'.1 h
  have h0 : maskOk n 0 = true := by
    have : n = 2 ∨ n = 3 ∨ n = 4 := by omega
    rcases this with rfl | rfl | rfl <;> decide
  have : maskOk n (ms[k]?.getD 0) = true := by
    cases hk : ms[k]? with
    | none => exact h0
    | some x => exact hall x (List.mem_of_getElem? hk)
  exact ⟨this, mask_lt h2 h4 this⟩
theorem SubL.refl {ms : List Int} {n : Int} (h : masksOk ms n = true) : SubL ms ms := ⟨rfl, fun i => Sub.refl (masks_get h i).2.1⟩
theorem SubL.ok {a ms : List Int} {n : Int} (h : SubL a ms) (hm : masksOk ms n = true) : masksOk a n = true := by
  obtain ⟨h2, h4, hl, hall⟩ := masksOk_iff'.1 hm
  refine masksOk_iff'.2 ⟨h2, h4, by rw [h.1]; exact hl, fun m hmem => ?_⟩
  obtain ⟨i, hi⟩ := List.getElem?_of_mem hmem
  have h1 := h.2 i
  rw [hi] at h1
  exact sub_mask h1 (masks_get hm i).1
theorem SubL.lt {a ms : List Int} {n : Int} (h : SubL a ms) (hm : masksOk ms n = true) (k : Nat) : 0 ≤ a[k]?.getD 0 ∧ a[k]?.getD 0 < 32 := (masks_get (h.ok hm) k).2
theorem fold_sub {α : Type} {ms : List Int} {f : List Int → α → List Int} (hf : ∀ b a, SubL b ms → SubL (f b a) ms) : ∀ (l : List α) (b : List Int), SubL b ms → SubL (l.foldl f b) ms
  | [], b, h => h
  | a :: l, b, h => fold_sub hf l (f b a) (hf b a h)
theorem sub1 {ms out : List Int} {n : Int} (hm : masksOk ms n = true) (k : Nat) (h : SubL out ms) : SubL (sing1 ms n out k) ms := by
  unfold sing1
  split
  · refine fold_sub (fun b j hb => ?_) _ _ h
    unfold singJ
    split
    · have := hb.lt hm j
      exact hb.set j (sub_subI this.1 this.2)
    · exact hb
  · exact h
theorem sub2 {ms out : List Int} {n : Int} (hm : masksOk ms n = true) (l : Nat) (h : SubL out ms) : SubL (hidL ms n out l) ms := by
  refine fold_sub (fun b v hb => ?_) _ _ h
  unfold hidV hid1
  split
  · rename_i c _
    exact hb.set _ (sub_andI (hb.lt hm c.toNat).1)
  · exact hb
theorem sub3 {ms out : List Int} {n : Int} (hm : masksOk ms n = true) (l : Nat) (h : SubL out ms) : SubL (pairL ms n out l) ms := by
  refine fold_sub (fun b i hb => ?_) _ _ h
  refine fold_sub (fun b j hb => ?_) _ _ hb
  unfold pair1
  split
  · refine fold_sub (fun b q hb => ?_) _ _ hb
    unfold pairK
    split
    · have := hb.lt hm ((lineCells n l)[q]?.getD 0).toNat
      exact hb.set _ (sub_subI this.1 this.2)
    · exact hb
  · exact hb
/-! ### Rules -/
theorem maskVals_bit {m v : Int} (h : v ∈ maskVals m) : bit m v = true ∧ 1 ≤ v ∧ v ≤ 4 := by
  unfold maskVals at h
  split at h
  · obtain ⟨h1, h2⟩ := List.mem_filter.1 h
    simp at h1
    exact ⟨h2, by omega, by omega⟩
  · simp at h
theorem orAll_get (f vs : List Int) (i : Nat) : (orAll f vs)[i]?.getD 0 = if i < f.length ∧ i < vs.length then orI (f[i]?.getD 0) (one (vs[i]?.getD 0)) else 0 := by
  unfold orAll
  rw [List.getElem?_zipWith]
  by_cases h1 : i < f.length
  · by_cases h2 : i < vs.length
    · rw [List.getElem?_eq_getElem h1, List.getElem?_eq_getElem h2, if_pos ⟨h1, h2⟩]
      rfl
    · rw [List.getElem?_eq_getElem h1, List.getElem?_eq_none (by omega), if_neg (by omega)]
      rfl
  · rw [List.getElem?_eq_none (show f.length ≤ i by omega), if_neg (by omega)]
    rfl
theorem waysO_sub (r : Rule) (own : List Int) (hown : ∀ i : Nat, 0 ≤ own[i]?.getD 0 ∧ own[i]?.getD 0 < 32) : ∀ (L : List (List Int)) (vs f : List Int), L = (own.drop vs.length).map maskVals → vs.length ≤ own.length →
    (∀ i : Nat, i < vs.length → vs[i]?.getD 0 ∈ maskVals (own[i]?.getD 0)) → SubL f own → SubL (waysO r L vs f) own
  | [], vs, f, hL, hl, hv, hf => by
    unfold waysO
    split
    · have hlen : vs.length = own.length := by
        have := congrArg List.length hL
        simp at this
        omega
      refine ⟨by simp [orAll, hf.1, hlen], fun i => ?_⟩
      rw [orAll_get]
      split
      · rename_i hi
        obtain ⟨h1, h2, h3⟩ := maskVals_bit (hv i hi.2)
        exact sub_or (hf.2 i) (hown i).2 (hown i).1 (by omega) (by omega) h1
      · rename_i hi
        have h1 := hf.2 i
        rw [List.getElem?_eq_none (by have := hf.1; omega)] at h1
        exact h1
    · exact hf
  | l :: ls, vs, f, hL, hl, hv, hf => by
    unfold waysO
    have hlt : vs.length < own.length := by
      have := congrArg List.length hL
      simp at this
      omega
    rw [List.drop_eq_getElem_cons hlt, List.map_cons] at hL
    injection hL with h1 h2
    have hmem : ∀ v ∈ l, v ∈ maskVals (own[vs.length]?.getD 0) := fun v hv => by
      rw [List.getElem?_eq_getElem hlt]
      exact h1 ▸ hv
    clear h1
    induction l generalizing f with
    | nil => exact hf
    | cons v l ih =>
      simp only [List.foldl_cons]
      refine ih _ (waysO_sub r own hown ls (vs ++ [v]) f (by rw [h2]; simp) (by simp; omega) (fun i hi => ?_) hf) (fun v hv => hmem v (by simp [hv]))
      by_cases e : i < vs.length
      · rw [List.getElem?_append_left e]
        exact hv i e
      · have : i = vs.length := by simp at hi; omega
        subst this
        simpa using hmem v (by simp)
theorem ruleMasks_sub (r : Rule) (own : List Int) (hown : ∀ i : Nat, 0 ≤ own[i]?.getD 0 ∧ own[i]?.getD 0 < 32) : SubL (ruleMasks r own) own := by
  refine waysO_sub r own hown _ [] _ (by simp) (by simp) (fun i h => by simp at h) ⟨by simp, fun i => ?_⟩
  have : (List.replicate own.length (0 : Int))[i]?.getD 0 = 0 := by
    rw [List.getElem?_replicate]
    split <;> rfl
  rw [this]
  exact ⟨by omega, by unfold andI; simp⟩
theorem setAll_sub {ms : List Int} : ∀ (cs fs out : List Int), (∀ i : Nat, i < cs.length → i < fs.length → Sub (fs[i]?.getD 0) (ms[(cs[i]?.getD 0).toNat]?.getD 0)) → SubL out ms → SubL (setAll out cs fs) ms
  | [], fs, out, _, h => by cases fs <;> exact h
  | c :: cs, [], out, _, h => h
  | c :: cs, m :: fs, out, hs, h => by
    unfold setAll
    refine setAll_sub cs fs _ (fun i h1 h2 => by simpa using hs (i + 1) (by simpa using h1) (by simpa using h2)) ?_
    have h0 := hs 0 (by simp) (by simp)
    simp only [List.getElem?_cons_zero, Option.getD_some] at h0
    refine ⟨by simp [h.1], fun i => ?_⟩
    rw [List.getElem?_set]
    split
    · rename_i e
      subst e
      split
      · exact h0
      · rename_i hk
        have h2 := h.2 c.toNat
        rw [List.getElem?_eq_none (show out.length ≤ c.toNat by omega)] at h2
        exact h2
    · exact h.2 i
theorem own_lt {r : Rule} {ms : List Int} {n : Int} (hm : masksOk ms n = true) (i : Nat) : 0 ≤ (ownOf r ms)[i]?.getD 0 ∧ (ownOf r ms)[i]?.getD 0 < 32 := by
  unfold ownOf
  rw [List.getElem?_map]
  cases r.cells[i]? with
  | none => simp
  | some c => exact (masks_get hm c.toNat).2
theorem rule1_sub {r : Rule} {out : List Int} {n : Int} (hm : masksOk out n = true) : SubL (rule1 out r) out := by
  unfold rule1
  refine setAll_sub _ _ _ (fun i h1 h2 => ?_) (SubL.refl hm)
  have := (ruleMasks_sub r (ownOf r out) (own_lt hm)).2 i
  have e : (ownOf r out)[i]?.getD 0 = out[(r.cells[i]?.getD 0).toNat]?.getD 0 := by
    unfold ownOf
    rw [List.getElem?_map, List.getElem?_eq_getElem h1]
    rfl
  rwa [e] at this
theorem rules_sub {ms : List Int} {n : Int} (hm : masksOk ms n = true) (rs : List Rule) : SubL (rs.foldl rule1 ms) ms :=
  fold_sub (fun b r hb => (rule1_sub (hb.ok hm)).trans hb) _ _ (SubL.refl hm)
theorem narrow_sub {p : Puzzle} {ms : List Int} {t : Int} (hp : puzzleOk p = true) (hm : masksOk ms p.size = true) (h1 : 1 ≤ t) (h4 : t ≤ 4) : SubL (narrowBy p ms t) ms := by
  have : t = 1 ∨ t = 2 ∨ t = 3 ∨ t = 4 := by omega
  unfold narrowBy
  rw [if_pos ⟨hp, hm⟩]
  rcases this with rfl | rfl | rfl | rfl
  · simp only [narrow1, hm, if_true]
    exact fold_sub (fun b k hb => sub1 hm k hb) _ _ (SubL.refl hm)
  · simp only [narrow2, hm, if_true]
    exact fold_sub (fun b k hb => sub2 hm k hb) _ _ (SubL.refl hm)
  · simp only [narrow3, hm, if_true]
    exact fold_sub (fun b k hb => sub3 hm k hb) _ _ (SubL.refl hm)
  · simp only [narrow4, hp, hm, and_self, if_true]
    exact rules_sub hm p.rules
/-! ### What is left -/
theorem sum_le_of_sub : ∀ {a b : List Int}, SubL a b → (∀ i : Nat, 0 ≤ b[i]?.getD 0) → 0 ≤ a.sum ∧ a.sum ≤ b.sum ∧ (a ≠ b → a.sum < b.sum)
  | [], [], _, _ => by simp
  | [], y :: b, h, _ => by have := h.1; simp at this
  | x :: a, [], h, _ => by have := h.1; simp at this
  | x :: a, y :: b, h, hb => by
    have h0 := h.2 0
    have hb0 := hb 0
    simp only [List.getElem?_cons_zero, Option.getD_some] at h0 hb0
    have hle := h0.le hb0
    have ih := sum_le_of_sub (a := a) (b := b) ⟨by simpa using h.1, fun i => by simpa using h.2 (i + 1)⟩ (fun i => by simpa using hb (i + 1))
    have h00 := h0.1
    refine ⟨by simp; omega, by simp; omega, fun hne => ?_⟩
    simp only [List.sum_cons]
    by_cases e : x = y
    · have : a ≠ b := fun e' => hne (by rw [e, e'])
      have := ih.2.2 this
      omega
    · have := ih.2.1
      omega
end Go.Proofs.Ytaicenafkjbnoaa
