/- The abstract machine: a step depends on what it looks at alone. -/
import Derived.Test.YtaicenafkjbnoaaAmP
set_option linter.unusedVariables false
set_option linter.unusedSimpArgs false
set_option linter.unusedSectionVars false
namespace Go.AM

section
variable {H H' : Heap} {st : Step} {tv : TV} {id8 : Nat}
/-- Both heaps have the same object there. -/
def SameAt (H H' : Heap) (l : List Nat) : Prop := ∀ id ∈ l, getA id H = getA id H'
theorem SameAt.one {id : Nat} {l : List Nat} (h : SameAt H H' l) (hm : id ∈ l) : getA id H' = getA id H := (h id hm).symm
theorem verOf_same {id : Nat} (h : getA id H' = getA id H) : verOf H' id = verOf H id := by unfold verOf; rw [h]
theorem newBox_local {cs : List C} (h : SameAt H H' (newBox H id8 cs).rd) : newBox H' id8 cs = newBox H id8 cs := by
  unfold newBox
  rw [verOf_same (h.one (id := id8) (by simp [newBox]))]
theorem newArr_local {vc : Prop} {fr : Bool} {d : D} {k : List (Nat × Obj)} {rd : List Nat} (h : SameAt H H' (newArr H id8 vc fr d k rd).rd) : newArr H' id8 vc fr d k rd = newArr H id8 vc fr d k rd := by
  unfold newArr
  rw [verOf_same (h.one (id := id8) (by simp [newArr]))]
theorem killL_local {ks : List Nat} (h : SameAt H H' ks) : killL H' ks = killL H ks := by
  unfold killL
  exact List.map_congr_left fun id hid => by rw [verOf_same (h.one hid)]
theorem rowD0_local {c : C} {r : D × Bool} (hr : rowD0 H c = some r) (h : SameAt H H' (rdOf c)) : rowD0 H' c = some r := by
  cases c <;> simp only [rowD0] at hr ⊢ <;> try exact hr
  rename_i id ver off len
  rw [h.one (id := id) (by simp [rdOf])]
  exact hr
theorem rowD_local {c : C} {r : D × Bool} (hr : rowD H c = some r) (h : SameAt H H' (rdOf c)) : rowD H' c = some r := by
  unfold rowD at *
  obtain ⟨r0, h0, h1⟩ := Option.map_eq_some_iff.1 hr
  rw [rowD0_local h0 h]
  simpa using h1
theorem frzD_local {c : C} {d : D} {f : Bool} {ks : List Nat} (hr : frzD H c = some (d, f, ks)) (h : SameAt H H' ks) : frzD H' c = some (d, f, ks) := by
  cases c <;> simp only [frzD] at hr ⊢ <;> try exact hr
  rename_i id ver off len
  have hid : id ∈ ks := by
    split at hr
    · split at hr
      · have hr := Option.some.inj hr
        simp only [Prod.mk.injEq] at hr
        rw [← hr.2.2]; simp
      · cases hr
    · cases hr
  rw [h.one hid]
  exact hr
theorem frzDs_local : ∀ {cs : List C} {ds : List D} {f : Bool} {ks : List Nat}, frzDs H cs = some (ds, f, ks) → SameAt H H' ks → frzDs H' cs = some (ds, f, ks)
  | [], ds, f, ks, h, _ => h
  | c :: r, ds, f, ks, h, hs => by
    simp only [frzDs] at h ⊢
    split at h
    · rename_i d f1 k1 ds1 f2 k2 h1 h2
      have h := Option.some.inj h
      simp only [Prod.mk.injEq] at h
      obtain ⟨rfl, rfl, rfl⟩ := h
      rw [frzD_local h1 fun id hid => hs id (by simp [hid]), frzDs_local h2 fun id hid => hs id (by simp [hid])]
    · cases h
theorem litRows_local : ∀ {l : List (Nat × V)} {size m : Nat} {xs : List (List D)} {f : Bool} {ks : List Nat}, litRows H size m l = some (xs, f, ks) → SameAt H H' ks → litRows H' size m l = some (xs, f, ks)
  | [], size, m, xs, f, ks, h, _ => h
  | (i, v) :: r, size, m, xs, f, ks, h, hs => by
    simp only [litRows] at h ⊢
    split at h
    · rename_i hc
      rw [if_pos hc]
      split at h
      · rename_i d f1 k1 ds1 f2 k2 h1 h2
        have h := Option.some.inj h
        simp only [Prod.mk.injEq] at h
        obtain ⟨rfl, rfl, rfl⟩ := h
        rw [frzDs_local h1 fun id hid => hs id (by simp [hid]), litRows_local h2 fun id hid => hs id (by simp [hid])]
      · cases h
    · cases h
theorem actBox_local {x : V} (h : actBox H id8 x = some st) (hs : SameAt H H' st.rd) : actBox H' id8 x = some st := by
  unfold actBox at h ⊢
  split at h
  · rename_i hc
    injection h with h
    subst h
    rw [if_pos hc, newBox_local hs]
  · cases h
theorem actAlloc_local {t : Option Ty} (h : actAlloc H id8 t = some st) (hs : SameAt H H' st.rd) : actAlloc H' id8 t = some st := by
  unfold actAlloc at h ⊢
  split at h
  · rename_i z
    obtain ⟨l, h1, rfl⟩ := Option.map_eq_some_iff.1 h
    simp only [h1, Option.map_some]
    rw [verOf_same (hs.one (id := id8) (by simp))]
  · injection h with h
    subst h
    rename_i ty hno
    rw [newBox_local hs]
  · cases h
theorem actBuildSlice_local {te : Option Ty} {len : Nat} {parts : List (Nat × V)} (h : actBuildSlice H id8 te len parts = some st) (hs : SameAt H H' st.rd) : actBuildSlice H' id8 te len parts = some st := by
  unfold actBuildSlice at h ⊢
  split at h
  · rename_i te
    split at h
    · rename_i hc
      simp only [if_pos hc]
      split at h
      · rename_i xs fr ks hl
        split at h
        · rename_i hn
          obtain ⟨d, h1, rfl⟩ := Option.map_eq_some_iff.1 h
          have hks : SameAt H H' ks := fun id hid => hs id (by simp [newArr, hid])
          rw [litRows_local hl hks]
          simp only [if_pos hn, h1, Option.map_some]
          rw [killL_local hks, newArr_local hs]
        · cases h
      · cases h
    · cases h
  · cases h
theorem actLoad_local {ty : Option Ty} {p : C} (h : actLoad H ty p = some st) (hs : SameAt H H' st.rd) : actLoad H' ty p = some st := by
  unfold actLoad at h ⊢
  split at h
  · cases h
  · rename_i ty
    split at h
    · rename_i id ver j o
      have : id ∈ st.rd := by
        split at h
        · split at h
          · obtain ⟨v, _, rfl⟩ := Option.map_eq_some_iff.1 h
            simp
          · cases h
        · split at h
          · obtain ⟨v, _, rfl⟩ := Option.map_eq_some_iff.1 h
            simp
          · cases h
        · cases h
      rw [hs.one this]
      exact h
    · exact h
    · cases h
theorem actStore_local {ty : Option Ty} {p : C} {x : V} (h : actStore H ty p x = some st) (hs : SameAt H H' st.rd) : actStore H' ty p x = some st := by
  unfold actStore at h ⊢
  split at h
  · cases h
  · rename_i ty
    split at h
    · rename_i id ver j o
      have : id ∈ st.rd := by
        split at h
        · split at h
          · injection h with h
            subst h
            simp
          · cases h
        · split at h
          · unfold storeArr at h
            split at h
            · split at h
              · obtain ⟨v, _, rfl⟩ := Option.map_eq_some_iff.1 h
                simp
              · cases h
            · cases h
          · cases h
        · cases h
      rw [hs.one this]
      exact h
    · cases h
theorem convStr_local {te : Option Ty} {x : C} (h : convStr H te x = some st) (hs : SameAt H H' st.rd) : convStr H' te x = some st := by
  unfold convStr at h ⊢
  split at h
  · split at h
    · rename_i l fr hr
      injection h with h
      subst h
      rw [rowD_local hr hs]
    · cases h
  · cases h
theorem actConv_local {src dst : TypeId} {x : C} (h : actConv tv H src dst x = some st) (hs : SameAt H H' st.rd) : actConv tv H' src dst x = some st := by
  unfold actConv at h ⊢
  split at h
  · split at h
    · exact convStr_local h hs
    · cases h
  · exact h
  · cases h
theorem actMakeSlice_local {te : Option Ty} {l c : C} (h : actMakeSlice H id8 te l c = some st) (hs : SameAt H H' st.rd) : actMakeSlice H' id8 te l c = some st := by
  unfold actMakeSlice at h ⊢
  split at h
  · obtain ⟨d, h1, rfl⟩ := Option.map_eq_some_iff.1 h
    simp only [h1, Option.map_some]
    rw [newArr_local hs]
  · cases h
theorem sliceC_local {size : Nat} {x : C} {lo hi : Int} (h : sliceC H size x lo hi = some st) (hs : SameAt H H' st.rd) : sliceC H' size x lo hi = some st := by
  cases x <;> simp only [sliceC] at h ⊢ <;> try exact h
  rename_i id ver off len
  have : id ∈ st.rd := by
    split at h
    · split at h
      · injection h with h; subst h; simp
      · cases h
    · cases h
  rw [hs.one this]
  exact h
theorem sliceRow_local {te : Option Ty} {x : C} {lo hi mx : Option Int} (h : sliceRow H te x lo hi mx = some st) (hs : SameAt H H' st.rd) : sliceRow H' te x lo hi mx = some st := by
  unfold sliceRow at h ⊢
  split at h
  · obtain ⟨d, h1, rfl⟩ := Option.map_eq_some_iff.1 h
    simp only [sliceC_local h1 hs, Option.map_some]
  · cases h
theorem actSlice_local {t : TypeId} {x : C} {lo hi mx : Option Int} {full noHi : Bool} (h : actSlice tv H t x lo hi mx full noHi = some st) (hs : SameAt H H' st.rd) : actSlice tv H' t x lo hi mx full noHi = some st := by
  unfold actSlice at h ⊢
  split at h
  · split at h
    · cases h
    · rename_i hc
      simp only [if_neg hc]
      exact sliceRow_local h hs
  · exact h
  · cases h
theorem idxSlice_local {te : Option Ty} {x : C} {n : Int} (h : idxSlice H te x n = some st) (hs : SameAt H H' st.rd) : idxSlice H' te x n = some st := by
  unfold idxSlice at h ⊢
  split at h
  · cases h
  · split at h
    · rename_i id ver off len
      have : id ∈ st.rd := by
        split at h
        · split at h
          · injection h with h; subst h; simp
          · cases h
        · cases h
      rw [hs.one this]
      exact h
    · exact h
    · cases h
theorem idxArr_local {te : Option Ty} {m : Nat} {x : C} {n : Int} (h : idxArr H te m x n = some st) (hs : SameAt H H' st.rd) : idxArr H' te m x n = some st := by
  unfold idxArr at h ⊢
  split at h
  · cases h
  · split at h
    · rename_i id ver
      have : id ∈ st.rd := by
        split at h
        · split at h
          · injection h with h; subst h; simp
          · cases h
        · cases h
      rw [hs.one this]
      exact h
    · cases h
theorem actIdxAddr_local {t : TypeId} {x i : C} (h : actIdxAddr tv H t x i = some st) (hs : SameAt H H' st.rd) : actIdxAddr tv H' t x i = some st := by
  unfold actIdxAddr at h ⊢
  split at h
  · split at h
    · exact idxSlice_local h hs
    · exact idxArr_local h hs
    · cases h
  · cases h
theorem actLen_local {t : Option Ty} {x : C} (h : actLen H t x = some st) (hs : SameAt H H' st.rd) : actLen H' t x = some st := by
  unfold actLen at h ⊢
  split at h
  · split at h
    · exact h
    · exact h
    · rename_i id ver off len
      have : id ∈ st.rd := by
        split at h
        · split at h
          · injection h with h; subst h; simp
          · cases h
        · cases h
      rw [hs.one this]
      exact h
    · cases h
  · exact h
  · cases h
theorem appendS_local {te : Ty} {x y : C} (h : appendS H id8 te x y = some st) (hs : SameAt H H' st.rd) : appendS H' id8 te x y = some st := by
  unfold appendS at h ⊢
  cases hr : rowD H y with
  | none => rw [hr] at h; cases h
  | some p =>
    obtain ⟨e, fe⟩ := p
    rw [hr] at h
    dsimp only at h
    by_cases hc : e.es ≠ te.size ∨ te.bytes = 0
    · rw [if_pos hc] at h; cases h
    · rw [if_neg hc] at h
      split at h
      · injection h with h
        subst h
        rw [rowD_local hr fun id hid => hs id (by simp [newArr, hid])]
        dsimp only
        rw [if_neg hc, newArr_local hs]
      · rename_i id ver len
        have : id ∈ st.rd ∧ ∀ i, i ∈ rdOf y → i ∈ st.rd := by
          split at h
          · split at h
            · split at h
              · injection h with h; subst h; exact ⟨by simp, fun i hi => by simp [hi]⟩
              · cases h
            · cases h
          · cases h
        rw [rowD_local hr fun i hi => hs i (this.2 i hi)]
        dsimp only
        rw [if_neg hc, hs.one this.1]
        exact h
      · cases h
end

section
variable {s s' : St} {st : Step} {tv : TV} {id8 : Nat}
theorem capsOf_local {l : List Operand} (h : ∀ x ∈ l, s.ev x = s'.ev x) : capsOf s' l = capsOf s l := by
  induction l with
  | nil => rfl
  | cons x r ih => simp only [capsOf, St.evC, h x (by simp), ih fun y hy => h y (by simp [hy])]
theorem evParts_local {parts : Array (Nat × Operand)} (h : ∀ x ∈ (parts.toList.map (·.2)), s.ev x = s'.ev x) : evParts s' parts = evParts s parts := by
  unfold evParts
  refine List.map_congr_left fun p hp => ?_
  simp only [St.evV, h p.2 (List.mem_map_of_mem hp)]
theorem defI_local {d : Option Int} {x : Option Operand} (h : ∀ y, x = some y → s.ev y = s'.ev y) : defI s' d x = defI s d x := by
  cases x with
  | none => rfl
  | some y => simp only [defI, St.evC, h y rfl]
/-- What a step looks at: its operands, and the objects that it names. -/
theorem act_local {op : Op} (h : act tv s id8 op = some st) (he : ∀ x ∈ op.operands, s.ev x = s'.ev x) (hs : SameAt s.heap s'.heap st.rd) : act tv s' id8 op = some st := by
  have hc : ∀ x ∈ op.operands, s'.evC x = s.evC x := fun x hx => by simp only [St.evC, he x hx]
  have hv : ∀ x ∈ op.operands, s'.evV x = s.evV x := fun x hx => by simp only [St.evV, he x hx]
  cases op <;> simp only [act] at h ⊢ <;> simp only [Op.operands] at he hc hv <;> try (cases h; done)
  case move x => rw [← he x (by simp)]; exact h
  case assign x => rw [← he x (by simp)]; exact h
  case pick c x y => rw [hc c (by simp), ← he x (by simp), ← he y (by simp)]; exact h
  case alloc t => exact actAlloc_local h hs
  case box t x => rw [hv x (by simp)]; exact actBox_local h hs
  case build t parts => rw [evParts_local (s := s) (by simpa using he)]; exact h
  case buildSlice t len parts => rw [evParts_local (s := s) (by simpa using he)]; exact actBuildSlice_local h hs
  case load t p => rw [hc p (by simp)]; exact actLoad_local h hs
  case store t p x => rw [hc p (by simp), hv x (by simp)]; exact actStore_local h hs
  case nilCheck x => rw [hc x (by simp)]; exact h
  case binOp op t x y t' => rw [hc x (by simp), hc y (by simp)]; exact h
  case unOp op t x => rw [hc x (by simp)]; exact h
  case convert src dst x => rw [hc x (by simp)]; exact actConv_local h hs
  case makeFunc fn first caps =>
    unfold actFunc at h ⊢
    split at h
    · split at h
      · rename_i f hfl
        simp only [if_pos hfl]
        rw [capsOf_local (s := s) fun x hx => he x (by simp; exact .inr (by simpa using hx))]
        exact h
      · cases h
    · cases h
  case makeSlice t l c => rw [hc l (by simp), hc c (by simp)]; exact actMakeSlice_local h hs
  case slice t x lo hi mx =>
    have e1 : ∀ d, defI s' d lo = defI s d lo := fun d => defI_local fun y hy => he y (by simp [hy])
    have e2 : ∀ d, defI s' d hi = defI s d hi := fun d => defI_local fun y hy => he y (by simp [hy])
    have e3 : ∀ d, defI s' d mx = defI s d mx := fun d => defI_local fun y hy => he y (by simp [hy])
    rw [hc x (by simp), e1, e2, e3]
    exact actSlice_local h hs
  case fieldAddr t x f => rw [hc x (by simp)]; exact h
  case field t x f => rw [hv x (by simp)]; exact h
  case indexAddr t x i => rw [hc x (by simp), hc i (by simp)]; exact actIdxAddr_local h hs
  case index t x i => rw [hc x (by simp), hc i (by simp)]; exact h
  case extract x i => rw [← he x (by simp)]; exact h
  case call c =>
    unfold actCall at h ⊢
    split at h
    · rename_i b hb
      have hargs : c.args.toList.map s'.evC = c.args.toList.map s.evC := List.map_congr_left fun x hx => hc x (by
        simp only [Call.operands, Array.mem_append]
        exact .inr (by simpa using hx))
      simp only [hargs]
      unfold actBuiltin at h ⊢
      split at h
      · split at h
        · exact actLen_local h hs
        · cases h
      · exact h
      · exact h
      · split at h
        · split at h
          · rename_i htt
            obtain ⟨te, h1, h2⟩ := Option.bind_eq_some_iff.1 h
            simp only [if_pos htt, h1, Option.bind_some]
            exact appendS_local h2 hs
          · cases h
        · cases h
      · cases h
    · cases h
end
end Go.AM
