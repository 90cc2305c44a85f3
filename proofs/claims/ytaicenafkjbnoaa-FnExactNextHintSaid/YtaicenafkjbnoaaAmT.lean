/- The abstract machine: the rules of the code. -/
import Derived.Test.YtaicenafkjbnoaaAmS
set_option linter.unusedVariables false
set_option linter.unusedSimpArgs false
set_option linter.unusedSectionVars false
namespace Go.AM

/-- From the state the code ends as Q says. -/
def WP (P : Program) (n : Nat) (c : Code) (Q : Exit → St → Prop) (s : St) : Prop :=
  ∀ E a w, Rel E n s a w → c.wp P (fun e a' w' => ∃ s', Q e s' ∧ Rel E n s' a' w') a w

theorem wp_loop_ix {P : Program} {Q : Exit → Act → World → Prop} {a : Act} {w : World} {c : Code} (I : Nat → Act → World → Prop) (i : Nat) (h₀ : I i a w)
    (round : ∀ i a w, I i a w → c.wp P (Exit.then (fun a' w' => ∃ i', i' < i ∧ I i' a' w') Q) a w) : (Code.loop c).wp P Q a w := by
  intro b k cs
  have key : ∀ i a w, I i a w → ∃ e a' w', Q e a' w' ∧ Arrives P (lone (b.at a (.code c :: .inLoop c :: k)) cs w) b k cs e a' w' := by
    intro i
    induction i using Nat.strongRecOn with
    | _ i ih =>
      intro a w hI
      obtain ⟨e, a₁, w₁, hq, harr⟩ := round i a w hI b (.inLoop c :: k) cs
      cases e with
      | normal =>
        obtain ⟨i', hlt, hI₁⟩ := hq
        obtain ⟨e₂, a₂, w₂, hq₂, harr₂⟩ := ih i' hlt a₁ w₁ hI₁
        exact ⟨e₂, a₂, w₂, hq₂, .of_steps (Steps.trans harr (.one step_inLoop)) harr₂⟩
      | exit id => exact ⟨_, a₁, w₁, hq, .pass (x := .inLoop c) rfl (fun _ _ => .inl (by simp)) harr⟩
      | goto l => exact ⟨_, a₁, w₁, hq, .pass (x := .inLoop c) rfl (fun _ _ => .inl (by simp)) harr⟩
      | ret => exact ⟨_, a₁, w₁, hq, .pass (x := .inLoop c) rfl (fun _ _ => .inl (by simp)) harr⟩
      | panic ch => exact ⟨_, a₁, w₁, hq, .pass (x := .inLoop c) rfl (fun _ _ => .inl (by simp)) harr⟩
      | outgrown => exact ⟨_, a₁, w₁, hq, .pass (x := .inLoop c) rfl (fun _ _ => .inl (by simp)) harr⟩
  obtain ⟨e, a', w', hq, harr⟩ := key i a w h₀
  exact ⟨e, a', w', hq, .of_steps (.one step_loop) harr⟩

section
variable {P : Program} {tv : TV} {n : Nat} {s s' : St} {Q Q' : Exit → St → Prop} {x y c : Code}
theorem WP.mono (h : WP P n c Q s) (hq : ∀ e s, Q e s → Q' e s) : WP P n c Q' s := fun E a w R => wp_mono (h E a w R) fun e a' w' ⟨s', h1, h2⟩ => ⟨s', hq _ _ h1, h2⟩
/-- The state may be told in other words. -/
theorem WP.weak (h : WP P n c Q s') (hs : ∀ E a w, Rel E n s a w → Rel E n s' a w) : WP P n c Q s := fun E a w R => h E a w (hs E a w R)
theorem WP.skip (h : Q .normal s) : WP P n .skip Q s := fun E a w R => wp_skip ⟨s, h, R⟩
theorem WP.exit {id : Nat} (h : Q (.exit id) s) : WP P n (.exit id) Q s := fun E a w R => wp_exit ⟨s, h, R⟩
theorem WP.ret (h : Q .ret s) : WP P n .ret Q s := fun E a w R => wp_ret ⟨s, h, R⟩
def ThenQ (K : St → Prop) (Q : Exit → St → Prop) : Exit → St → Prop
  | .normal, s => K s
  | e, s => Q e s
theorem WP.seq (h : WP P n x (ThenQ (WP P n y Q) Q) s) : WP P n (.seq x y) Q s := by
  intro E a w R
  refine wp_seq (wp_mono (h E a w R) fun e a' w' ⟨s', h1, h2⟩ => ?_)
  cases e <;> first | exact h1 E a' w' h2 | exact ⟨s', h1, h2⟩
theorem WP.cond {o : Operand} {t : Bool} (hc : s.evC o = .bool t) (h1 : t = true → WP P n x Q s) (h2 : t = false → WP P n y Q s) : WP P n (.cond o x y) Q s := by
  intro E a w R
  have : a.eval o = .bool t := by
    obtain ⟨pl, _, _, _, henv⟩ := R
    have := ev_c henv o
    rw [hc] at this
    exact this
  exact wp_cond_split this (fun ht => h1 ht E a w R) (fun ht => h2 ht E a w R)
def BlockQ (id : Nat) (Q : Exit → St → Prop) : Exit → St → Prop
  | .exit id', s => if id' = id then Q .normal s else Q (.exit id') s
  | e, s => Q e s
theorem WP.block {id : Nat} (h : WP P n c (BlockQ id Q) s) : WP P n (.block id c) Q s := by
  intro E a w R
  refine wp_block (wp_mono (h E a w R) fun e a' w' ⟨s', h1, h2⟩ => ?_)
  cases e <;> try exact ⟨s', h1, h2⟩
  rename_i id'
  simp only [BlockQ] at h1
  simp only [Exit.inBlock]
  split at h1
  · rename_i e
    rw [if_pos e]; exact ⟨s', h1, h2⟩
  · rename_i e
    rw [if_neg e]; exact ⟨s', h1, h2⟩
theorem WP.loop (I : Nat → St → Prop) (i : Nat) (h0 : I i s) (round : ∀ i s, I i s → WP P n c (ThenQ (fun s' => ∃ i', i' < i ∧ I i' s') Q) s) : WP P n (.loop c) Q s := by
  intro E a w R
  refine wp_loop_ix (fun i a w => ∃ s, I i s ∧ Rel E n s a w) i ⟨s, h0, R⟩ fun i a w ⟨s, hI, R⟩ => ?_
  refine wp_mono (round i s hI E a w R) fun e a' w' ⟨s', h1, h2⟩ => ?_
  cases e <;> try exact ⟨s', h1, h2⟩
  obtain ⟨i', hlt, hI'⟩ := h1
  exact ⟨i', hlt, s', hI', h2⟩

def dstB (ops : Array Oper) (n : Nat) : Bool := ops.toList.all fun o => match o.dst with | some d => decide (d < n) | none => true
theorem dstB_get {ops : Array Oper} (h : dstB ops n = true) (i : Nat) (o : Oper) (d : Tmp) (ho : ops[i]? = some o) (hd : o.dst = some d) : d < n := by
  simp only [dstB, List.all_eq_true] at h
  have := h o (List.mem_of_getElem? (by simpa using ho : ops.toList[i]? = some o))
  rw [hd] at this
  simpa using this
theorem WR.mono {ops : Array Oper} {dr : Bool} {K K' : St → Prop} (hK : ∀ s, K s → K' s) : ∀ {l : List Nat} {acc : List (Nat × List Nat × List Nat)} {s : St}, WR P tv ops dr l acc K s → WR P tv ops dr l acc K' s
  | [], acc, s, h => hK s h
  | i :: r, acc, s, ⟨o, e, ho, D, hd, hk⟩ => ⟨o, e, ho, D, hd, fun v u h => (hk v u h).mono hK⟩
/-- The facts on the program that the regions stand on. -/
structure Prog (P : Program) (tv : TV) : Prop where
  tv : TVOk P tv
  mixed : P.follows .mixedOrders = true
theorem Rel.draw {E : Ent} {a : Act} {w : World} (R : Rel E n s a w) : Rel E n s a { w with drawn := w.drawn + 1 } := by
  obtain ⟨pl, hH, hdf, hn, henv⟩ := R
  exact ⟨pl, hH.still ⟨rfl, rfl, rfl, rfl⟩, hdf, hn, fun t lv ht => (evo_still (w := w) (w' := { w with drawn := w.drawn + 1 }) rfl).lvr (henv t lv ht)⟩
def regB (ops : Array Oper) (dr : Bool) (n : Nat) : Bool := decide (n ≤ 999) && dstB ops n && (!dr || backB ops)
theorem WP.region (hP : Prog P tv) {id : Nat} {ops : Array Oper} {dr : Bool} (hb : regB ops dr n = true) (h : WR P tv ops dr (List.range ops.size) [] (Q .normal) s) : WP P n (.region id ops dr) Q s := by
  simp only [regB, Bool.and_eq_true, decide_eq_true_eq] at hb
  obtain ⟨⟨h9, hd⟩, hb⟩ := hb
  intro E a w R
  cases dr with
  | false => exact wp_region (h.run hP.tv h9 (dstB_get hd) (fun s a w hq R => ⟨s, hq, R⟩) R)
  | true =>
    have hb : backB ops = true := by simpa using hb
    refine wp_region_any hP.mixed ?_
    have h' : WR P tv ops true (List.range ops.size) [] (fun s' => ∃ s0, Q .normal s0 ∧ Eqv s0 s') s := h.mono fun s h => ⟨s, h, Eqv.refl s⟩
    exact WR.any hP.tv h9 (dstB_get hd) hb (fun s s' ⟨s0, h0, e0⟩ e => ⟨s0, h0, e0.trans e⟩) (fun s a w ⟨s0, hq, e⟩ R => ⟨s0, hq, R.eqv e.symm⟩) ops.size (by simp) (Todo.start hb) h' R.draw
end
end Go.AM
