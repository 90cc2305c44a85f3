/- The abstract machine's operations are the model's: all of them; and calls. -/
import Derived.Test.YtaicenafkjbnoaaAmL
set_option linter.unusedVariables false
set_option linter.unusedSimpArgs false
set_option linter.unusedSectionVars false
namespace Go.AM

section
variable {P : Program} {tv : TV} {E : Ent} {n : Nat} {s : St} {a : Act} {w : World} {st : Step} {id8 : Nat}

theorem two_list {α : Type} {xs : Array α} {x y : α} (h : xs.toList = [x, y]) : xs = #[x, y] := Array.ext' h
theorem one_list {α : Type} {xs : Array α} {x : α} (h : xs.toList = [x]) : xs = #[x] := Array.ext' h
theorem sim_act (hP : TVOk P tv) {o : Oper} (hid : id8 < 8000) (hd : ∀ d, o.dst = some d → d < n) (R : Rel E n s a w) (h : act tv s id8 o.op = some st) (hvc : st.vc) : Sim P E n s a w o st := by
  obtain ⟨dst, op, ty, pos, aft, g⟩ := o
  dsimp only at h hd
  cases op with
  | move x => injection h with h; subst h; exact sim_move hd R x
  | assign x => injection h with h; subst h; exact sim_assign hd R x
  | pick c x y => exact sim_pick hd R c x y h
  | alloc t => exact sim_alloc hP hid hd R t h
  | box t x => exact sim_box hid hd R t x h
  | build t parts => exact sim_build hP hd R t parts h
  | buildSlice t len parts => exact sim_buildSlice hP hid hd R t len parts h
  | load t p => exact sim_load hP hd R t p h hvc
  | store t p x => exact sim_store hP hd R t p x h hvc
  | nilCheck x => exact sim_nilCheck hd R x h
  | binOp op t x y t' => exact sim_bin hP hd R op t t' x y h hvc
  | unOp op t x => exact sim_un hd R op t x h
  | convert src d2 x => exact sim_conv hP hd R src d2 x h hvc
  | makeFunc fn first caps => exact sim_makeFunc hd R fn first caps h
  | makeSlice t l c => exact sim_makeSlice hP hid hd R t l c h hvc
  | slice t x lo hi mx => exact sim_slice hP hd R t x lo hi mx h hvc
  | fieldAddr t x f => exact sim_fieldAddr hP hd R t x f h
  | field t x f => exact sim_field hP hd R t x f h
  | indexAddr t x i => exact sim_idxAddr hP hd R t x i h hvc
  | index t x i => exact sim_index hP hd R t x i h hvc
  | extract x i => exact sim_extract hd R x i h
  | call c =>
    simp only [act] at h
    unfold actCall at h
    split at h
    · rename_i b hb
      unfold actBuiltin at h
      split at h
      · split at h
        · rename_i ts xs t x hts hxs
          obtain ⟨y, hy, rfl⟩ : ∃ y, c.args = #[y] ∧ s.evC y = x := by
            match hq : c.args.toList, hxs with
            | [y], hxs => exact ⟨y, one_list hq, by simpa using hxs⟩
          exact sim_len hP hd R t y c hb (one_list hts) hy h
        · cases h
      · split at h
        · rename_i ts xs x y hxs
          obtain ⟨x', y', hy, rfl, rfl⟩ : ∃ x' y', c.args = #[x', y'] ∧ s.evC x' = x ∧ s.evC y' = y := by
            match hq : c.args.toList, hxs with
            | [x', y'], hxs => simp at hxs; exact ⟨x', y', two_list hq, hxs.1, hxs.2⟩
          exact sim_max hd R x' y' c true hb hy h
        · cases h
      · split at h
        · rename_i ts xs x y hxs
          obtain ⟨x', y', hy, rfl, rfl⟩ : ∃ x' y', c.args = #[x', y'] ∧ s.evC x' = x ∧ s.evC y' = y := by
            match hq : c.args.toList, hxs with
            | [x', y'], hxs => simp at hxs; exact ⟨x', y', two_list hq, hxs.1, hxs.2⟩
          exact sim_max hd R x' y' c false hb hy h
        · cases h
      · split at h
        · rename_i ts xs t t' x y hts hxs
          split at h
          · rename_i htt
            subst htt
            obtain ⟨x', y', hy, rfl, rfl⟩ : ∃ x' y', c.args = #[x', y'] ∧ s.evC x' = x ∧ s.evC y' = y := by
              match hq : c.args.toList, hxs with
              | [x', y'], hxs => simp at hxs; exact ⟨x', y', two_list hq, hxs.1, hxs.2⟩
            obtain ⟨te, hte, h⟩ := Option.bind_eq_some_iff.1 h
            exact sim_append hP hid hd R t x' y' c hb (two_list hts) hy hte h hvc
          · cases h
        · cases h
      · cases h
    · cases h
  | _ => simp [act] at h
end
end Go.AM
