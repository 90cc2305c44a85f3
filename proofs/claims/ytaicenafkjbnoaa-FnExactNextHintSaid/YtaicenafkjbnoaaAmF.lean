/- The abstract machine's operations are the model's: values, variables. -/
import Derived.Test.YtaicenafkjbnoaaAmE
set_option linter.unusedVariables false
set_option linter.unusedSimpArgs false
set_option linter.unusedSectionVars false
namespace Go.AM

theorem cr_one {B : Bs} {H : Heap} {pl : Pl} {w : World} {c : C} {v : Value} (h : CR B H pl w c v) (hb : noBad c = true) : v.oneCell' = true ∧ v.cells = #[v] := by
  cases c with
  | dsl fr d => cases h.2 <;> exact ⟨rfl, rfl⟩
  | dp fr ds => obtain ⟨p, rfl, _⟩ := h; exact ⟨rfl, rfl⟩
  | osl id ver off len => obtain ⟨⟨_, _, _, rfl⟩, _⟩ := h; exact ⟨rfl, rfl⟩
  | ptr id ver j o => obtain ⟨⟨_, rfl⟩, _⟩ := h; exact ⟨rfl, rfl⟩
  | fn f caps => obtain ⟨_, rfl, _⟩ := h; exact ⟨rfl, rfl⟩
  | bad => simp [noBad] at hb
  | _ => subst h; exact ⟨rfl, rfl⟩
theorem vr_cells {B : Bs} {H : Heap} {pl : Pl} {w : World} {x : V} {v : Value} (h : VR B H pl w x v) (hb : okV x = true) :
    v.cells.size = x.cells.length ∧ ∀ (i : Nat) c, x.cells[i]? = some c → ∃ u, v.cells[i]? = some u ∧ CR B H pl w c u := by
  cases x with
  | c c =>
    have := cr_one h hb
    rw [this.2]
    refine ⟨rfl, fun i c' hi => ?_⟩
    cases i with
    | zero => simp only [V.cells, List.getElem?_cons_zero, Option.some.injEq] at hi; subst hi; exact ⟨v, rfl, h⟩
    | succ i => simp [V.cells] at hi
  | agg xs =>
    obtain ⟨cs, rfl, hl, hc⟩ := h
    exact ⟨hl, hc⟩
theorem zc_cr {B : Bs} {H : Heap} {pl : Pl} {w : World} {c : C} {v : Value} (h : ZC c v) : CR B H pl w c v := by
  cases c <;> first | exact h | exact h.elim

section
variable {P : Program} {tv : TV} {E : Ent} {n : Nat} {s : St} {a : Act} {w : World} {dst : Option Tmp} {ty : TypeId} {pos : String} {aft : Array Edge} {g : Option (Nat × Bool)} {st : Step} {id8 : Nat}
theorem sim_move (hd : ∀ d, dst = some d → d < n) (R : Rel E n s a w) (x : Operand) : Sim P E n s a w ⟨dst, .move x, ty, pos, aft, g⟩ ⟨True, s.ev x, [], []⟩ := by
  obtain ⟨pl, hH, hdf, hn, henv⟩ := R
  exact sim_val hH hdf hn henv hd rfl rfl rfl (Rel.ev henv x)
theorem sim_assign (hd : ∀ d, dst = some d → d < n) (R : Rel E n s a w) (x : Operand) : Sim P E n s a w ⟨dst, .assign x, ty, pos, aft, g⟩ ⟨True, s.ev x, [], []⟩ := by
  obtain ⟨pl, hH, hdf, hn, henv⟩ := R
  exact sim_val hH hdf hn henv hd rfl rfl rfl (Rel.ev henv x)
theorem ev_c {pl : Pl} (henv : ∀ t lv, getA t s.env = some lv → LVR E.b s.heap pl w lv (a.tmps.getD t undef)) (x : Operand) : CR E.b s.heap pl w (s.evC x) (a.eval x) :=
  vr_one (lvr_one (Rel.ev henv x))
theorem ev_v {pl : Pl} (henv : ∀ t lv, getA t s.env = some lv → LVR E.b s.heap pl w lv (a.tmps.getD t undef)) (x : Operand) : VR E.b s.heap pl w (s.evV x) (a.eval x) :=
  lvr_one (Rel.ev henv x)
theorem sim_pick (hd : ∀ d, dst = some d → d < n) (R : Rel E n s a w) (c x y : Operand) (h : act tv s id8 (.pick c x y) = some st) : Sim P E n s a w ⟨dst, .pick c x y, ty, pos, aft, g⟩ st := by
  obtain ⟨pl, hH, hdf, hn, henv⟩ := R
  simp only [act] at h
  unfold actPick at h
  split at h
  · rename_i p hp
    injection h with h
    subst h
    have hc := ev_c henv c
    rw [hp] at hc
    have hc : a.eval c = .bool p := hc
    have hx := Rel.ev henv x
    have hy := Rel.ev henv y
    refine sim_val (v := if p then a.eval x else a.eval y) hH hdf hn henv hd rfl rfl ?_ ?_
    · simp [execOp, hc, asBool]
    · dsimp only
      unfold pickLV
      split
      · rename_i b1 b2 h1 h2
        rw [h1] at hx
        rw [h2] at hy
        have e1 : a.eval x = .bool b1 := hx
        have e2 : a.eval y = .bool b2 := hy
        cases p <;> simp [LVR, VR, CR, e1, e2]
      · cases p
        · exact hy
        · exact hx
  · cases h
theorem sim_new {pl pl' : Pl} {w' : World} (hdf : a.defers = []) (hn : a.tmps.size = n) (henv : ∀ t lv, getA t s.env = some lv → LVR E.b s.heap pl w lv (a.tmps.getD t undef))
    (hd : ∀ d, dst = some d → d < n) {o : Oper} (ho : o.dst = dst) {v : Value} (hr : (execOp a.eval o).run P w = .ok (.value v) w')
    (hH : HR E (updH st.upd s.heap) pl' w') (hev : Evo E.b s.heap pl w (updH st.upd s.heap) pl' w') (hv : LVR E.b (updH st.upd s.heap) pl' w' st.val v) : Sim P E n s a w o st := by
  refine ⟨_, w', hr, .inl ⟨v, rfl, pl', hH, ?_⟩⟩
  have := put_env (dst := o.dst) (v := v) (x := st.val) hn (by rw [ho]; exact hd) (fun t lv h => hev.lvr (henv t lv h)) (fun _ _ => hv)
  exact ⟨this.2.1.trans hdf, this.1, this.2.2⟩
theorem sim_skip {pl pl' : Pl} {w' : World} (hdf : a.defers = []) (hn : a.tmps.size = n) (henv : ∀ t lv, getA t s.env = some lv → LVR E.b s.heap pl w lv (a.tmps.getD t undef))
    (hd : ∀ d, dst = some d → d < n) {o : Oper} (ho : o.dst = dst) (hr : (execOp a.eval o).run P w = .ok .skip w')
    (hH : HR E (updH st.upd s.heap) pl' w') (hev : Evo E.b s.heap pl w (updH st.upd s.heap) pl' w') (hv : st.val = .v (.c .bad)) : Sim P E n s a w o st := by
  refine ⟨_, w', hr, .inr ⟨rfl, pl', hH, ?_⟩⟩
  have := put_env (dst := o.dst) (v := undef) (x := st.val) hn (by rw [ho]; exact hd) (fun t lv h => hev.lvr (henv t lv h)) (fun _ _ => by rw [hv]; trivial)
  exact ⟨this.2.1.trans hdf, this.1, this.2.2⟩
theorem push_old (w : World) (o : Go.Obj) (k : Nat) (h : k < w.heap.size) : (w.heap.push o)[k]? = w.heap[k]? := by
  rw [Array.getElem?_push, if_neg (Nat.ne_of_lt h)]
/-- A new variable. -/
theorem new_box {pl : Pl} (hH : HR E s.heap pl w) (hid : id8 < 8000) (cs : List C) (vs : Array Value) (T : TypeId) (hs : vs.size = cs.length)
    (hc : ∀ (i : Nat) c, cs[i]? = some c → ∃ u, vs[i]? = some u ∧ CR E.b s.heap pl w c u) :
    ∃ pl', HR E (updH (newBox s.heap id8 cs).upd s.heap) pl' { w with heap := w.heap.push (.cells vs T) } ∧ Evo E.b s.heap pl w (updH (newBox s.heap id8 cs).upd s.heap) pl' { w with heap := w.heap.push (.cells vs T) } ∧
      LVR E.b (updH (newBox s.heap id8 cs).upd s.heap) pl' { w with heap := w.heap.push (.cells vs T) } (newBox s.heap id8 cs).val (.pointer (some ⟨w.heap.size, 0, none⟩)) := by
  have h := HR.new (w' := { w with heap := w.heap.push (.cells vs T) }) (o' := .box (verOf s.heap id8) cs) hH (hH.fresh hid) ver_new (some w.heap.size) 0 ⟨rfl, rfl, rfl, by simp⟩ (fun k hk => by injection hk with hk; subst hk; simp) (fun k hk => push_old w _ k hk)
    (fun hev => ⟨w.heap.size, vs, T, Pl.put_blk .., by simp, hs, fun i c hi => let ⟨u, hu, hr⟩ := hc i c hi; ⟨u, hu, hev.cr hr⟩⟩)
  refine ⟨_, h.1, h.2, ⟨_, rfl⟩, ?_⟩
  simp only [newBox, updH, List.foldl, ptrR, getA_setA, if_true]
  exact ⟨Nat.le_refl _, fun _ => ⟨by trivial, _, Pl.put_blk .., rfl⟩⟩
theorem sim_box (hid : id8 < 8000) (hd : ∀ d, dst = some d → d < n) (R : Rel E n s a w) (t : TypeId) (x : Operand) (h : act tv s id8 (.box t x) = some st) : Sim P E n s a w ⟨dst, .box t x, ty, pos, aft, g⟩ st := by
  obtain ⟨pl, hH, hdf, hn, henv⟩ := R
  simp only [act, actBox] at h
  split at h
  · rename_i hok
    injection h with h
    subst h
    have hc := vr_cells (ev_v henv x) hok
    obtain ⟨pl', h1, h2, h3⟩ := new_box hH hid _ _ t hc.1 hc.2
    exact sim_new hdf hn henv hd rfl rfl h1 h2 h3
  · cases h
theorem allB_get : ∀ {cs : List C} {l : List Bool}, allB cs = some l → cs.length = l.length ∧ ∀ (j : Nat) b, l[j]? = some b → cs[j]? = some (.bool b)
  | [], l, h => by simp [allB] at h; subst h; simp
  | c :: r, l, h => by
    cases c <;> simp [allB] at h
    obtain ⟨m, hm, rfl⟩ := h
    have ih := allB_get hm
    refine ⟨by simp [ih.1], fun j b hj => ?_⟩
    cases j with
    | zero => simpa using hj
    | succ j => simpa using ih.2 j b (by simpa using hj)
theorem sim_alloc (hP : TVOk P tv) (hid : id8 < 8000) (hd : ∀ d, dst = some d → d < n) (R : Rel E n s a w) (t : TypeId) (h : act tv s id8 (.alloc t) = some st) : Sim P E n s a w ⟨dst, .alloc t, ty, pos, aft, g⟩ st := by
  obtain ⟨pl, hH, hdf, hn, henv⟩ := R
  simp only [act] at h
  cases ht : tv t with
  | none => rw [ht] at h; cases h
  | some ty' =>
    rw [ht] at h
    obtain ⟨i, d, z, h1, h2, h3, h4, h5, h6, h7, h8, h9⟩ := ofTV hP ht
    have hr : (execOp a.eval ⟨dst, .alloc t, ty, pos, aft, g⟩).run P w = .ok (.value (.pointer (some ⟨w.heap.size, 0, none⟩))) { w with heap := w.heap.push (.cells z.cells t) } := by
      simp [execOp, Instr.alloc, zeroValue, typeInfo, h1, h5, newVar, newRow]
    unfold actAlloc at h
    split at h
    · rename_i heq
      injection heq with heq
      subst heq
      simp only [Option.map_eq_some_iff] at h
      obtain ⟨l, hl, rfl⟩ := h
      have hb := allB_get hl
      have hx := HR.new (w' := { w with heap := w.heap.push (.cells z.cells t) }) (o' := .arr (verOf s.heap id8) true (.bools l)) hH (hH.fresh hid) ver_new (some w.heap.size) l.length ⟨rfl, rfl, rfl, by simp⟩ (fun k hk => by injection hk with hk; subst hk; simp) (fun k hk => push_old w _ k hk)
        (fun hev => ⟨1, _, rfl, by omega, fun x hx => by obtain ⟨b, _, rfl⟩ := List.mem_map.1 hx; rfl, fun hx => by simp [Pl.put] at hx, fun b hbb => by
          rw [Pl.put_blk] at hbb
          injection hbb with hbb
          subst hbb
          refine ⟨z.cells, t, by simp, ?_, ?_, fun j o e he => ?_⟩
          · rw [Pl.put_cap, h6]; show _ = l.length * 1; rw [← hb.1]; simp
          · rw [Pl.put_cap]; simp
          · simp only [List.getElem?_map] at he
            cases hlj : l[j]? with
            | none => simp [hlj] at he
            | some b =>
              simp only [hlj, Option.map_some, Option.bind_some] at he
              cases o with
              | zero =>
                simp only [List.getElem?_cons_zero, Option.some.injEq] at he
                subst he
                obtain ⟨v, hv, hz⟩ := h7 j _ (hb.2 j b hlj)
                obtain rfl : v = _ := hz
                exact ⟨_, by simpa using hv, .bool b⟩
              | succ o => simp at he⟩)
      refine sim_new hdf hn henv hd rfl hr hx.1 hx.2 ⟨⟨_, rfl⟩, ?_⟩
      simp only [updH, List.foldl, ptrR, getA_setA, if_true]
      exact ⟨Nat.le_refl _, fun _ => ⟨_, Pl.put_blk .., by simp⟩⟩
    · rename_i heq
      injection heq with heq
      subst heq
      injection h with h
      subst h
      obtain ⟨pl', g1, g2, g3⟩ := new_box hH hid _ _ t h6 (fun i c hi => let ⟨v, hv, hz⟩ := h7 i c hi; ⟨v, hv, zc_cr hz⟩)
      exact sim_new hdf hn henv hd rfl hr g1 g2 g3
    · cases h
theorem sim_bin (hP : TVOk P tv) (hd : ∀ d, dst = some d → d < n) (R : Rel E n s a w) (op : BinOp) (t t' : TypeId) (x y : Operand) (h : act tv s id8 (.binOp op t x y t') = some st) (hvc : st.vc) : Sim P E n s a w ⟨dst, .binOp op t x y t', ty, pos, aft, g⟩ st := by
  obtain ⟨pl, hH, hdf, hn, henv⟩ := R
  simp only [act, Option.map_eq_some_iff] at h
  obtain ⟨r, hb, rfl⟩ := h
  obtain ⟨z, hz, hc⟩ := run_binC hP hb hvc (ev_c henv x) (ev_c henv y) x y
  refine sim_val (v := z) hH hdf hn henv hd rfl rfl ?_ hc
  simp only [execOp]
  rw [Sem.run_bind, hz]
  rfl
theorem sim_un (hd : ∀ d, dst = some d → d < n) (R : Rel E n s a w) (op : UnOp) (t : TypeId) (x : Operand) (h : act tv s id8 (.unOp op t x) = some st) : Sim P E n s a w ⟨dst, .unOp op t x, ty, pos, aft, g⟩ st := by
  obtain ⟨pl, hH, hdf, hn, henv⟩ := R
  have hx := ev_c henv x
  simp only [act, actUn] at h
  split at h
  · rename_i b hb
    injection h with h
    subst h
    rw [hb] at hx
    have hx : a.eval x = .bool b := hx
    exact sim_val (v := .bool !b) hH hdf hn henv hd rfl rfl (by simp [execOp, Op.unary, hx]) rfl
  · rename_i k m hb
    injection h with h
    subst h
    rw [hb] at hx
    have hx : a.eval x = .int k m := hx
    exact sim_val (v := .int k (k.wrap (0 - m))) hH hdf hn henv hd rfl rfl (by simp [execOp, Op.unary, Op.intArith, hx]) rfl
  · cases h
theorem sim_extract (hd : ∀ d, dst = some d → d < n) (R : Rel E n s a w) (x : Operand) (i : Nat) (h : act tv s id8 (.extract x i) = some st) : Sim P E n s a w ⟨dst, .extract x i, ty, pos, aft, g⟩ st := by
  obtain ⟨pl, hH, hdf, hn, henv⟩ := R
  have hx := Rel.ev henv x
  simp only [act, actExtract] at h
  split at h
  · rename_i vs hb
    rw [hb] at hx
    simp only [Option.map_eq_some_iff] at h
    obtain ⟨v, hv, rfl⟩ := h
    obtain ⟨cs, hx, hl, hc⟩ := hx
    obtain ⟨u, hu, hr⟩ := hc i v hv
    exact sim_val (v := u) hH hdf hn henv hd rfl rfl (by simp [execOp, Instr.extract, hx, hu]) hr
  · cases h
theorem sim_nilCheck (hd : ∀ d, dst = some d → d < n) (R : Rel E n s a w) (x : Operand) (h : act tv s id8 (.nilCheck x) = some st) : Sim P E n s a w ⟨dst, .nilCheck x, ty, pos, aft, g⟩ st := by
  obtain ⟨pl, hH, hdf, hn, henv⟩ := R
  have hx := ev_c henv x
  simp only [act, actNil] at h
  split at h
  · rename_i id ver j o hb
    injection h with h
    subst h
    rw [hb] at hx
    obtain ⟨⟨p, hv⟩, hr⟩ := hx
    refine sim_val (v := a.eval x) hH hdf hn henv hd rfl rfl ?_ ⟨⟨p, hv⟩, hr⟩
    simp [execOp, hv]
  · rename_i f cs hb
    injection h with h
    subst h
    rw [hb] at hx
    obtain ⟨l, hv, hr⟩ := hx
    refine sim_val (v := a.eval x) hH hdf hn henv hd rfl rfl ?_ ⟨l, hv, hr⟩
    simp [execOp, hv]
  · cases h
end
end Go.AM
