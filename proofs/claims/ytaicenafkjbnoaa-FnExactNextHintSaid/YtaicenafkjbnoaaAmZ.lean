/- The abstract machine: regions that are run in order; ways that meet inside them. -/
import Derived.Test.YtaicenafkjbnoaaAmY
set_option linter.unusedVariables false
set_option linter.unusedSimpArgs false
set_option linter.unusedSectionVars false
namespace Go.AM

section
variable {P : Program} {ops : Array Oper}
theorem wp_mono2 {Q Q' : Exit → Act → World → Prop} {o : Oper} {a : Act} {w : World} {K K' : Act → World → Prop} (hK : ∀ a w, K a w → K' a w) (hQ : ∀ e a w, e ≠ .normal → Q e a w → False) (hh : o.wp P a w K Q) : o.wp P a w K' Q' := by
  unfold Oper.wp at *
  generalize (execOp a.eval o).run P w = r at *
  cases r with
  | ok n w' =>
    cases n <;> simp only [Oper.upon] at hh ⊢ <;>
      first
        | exact hK _ _ hh
        | exact Calls.mono hh (fun e w'' he => by cases e <;> first | exact hK _ _ he | exact (hQ _ _ _ (by simp) he).elim | exact (let ⟨a, w, h⟩ := he; (hQ _ a w (by simp) h).elim))
        | exact Rows.mono hh (fun _ _ he => hK _ _ he)
  | halt x w' => cases x <;> simp only [Oper.upon] at hh ⊢ <;> first | exact (hQ _ _ _ (by simp) hh).elim | exact hh
theorem wpOps_seq {Q Q' : Exit → Act → World → Prop} {l2 : List Nat} (hn : ∀ a w, Q .normal a w → wpOps P ops Q' l2 a w) (hQ : ∀ e a w, e ≠ .normal → Q e a w → False) : ∀ {l1 : List Nat} {a : Act} {w : World}, wpOps P ops Q l1 a w → wpOps P ops Q' (l1 ++ l2) a w
  | [], a, w, h => hn a w h
  | i :: r, a, w, h => by
    rw [List.cons_append, wpOps_cons]
    rw [wpOps_cons] at h
    unfold wpOp at *
    split
    · rename_i ho
      simp only [ho] at h
      exact wpOps_seq hn hQ h
    · rename_i o ho
      simp only [ho] at h
      split
      · rename_i hw
        simp only [hw, if_true] at h
        rcases h with h | ⟨_, a', w', h⟩
        · exact .inl (wp_mono2 (fun a w h => wpOps_seq hn hQ h) hQ h)
        · exact (hQ _ _ _ (by simp) h).elim
      · rename_i hw
        simp only [hw] at h
        exact wpOps_seq hn hQ h
end

/-- What is left of a region that is run in order. -/
def WN (P : Program) (n : Nat) (ops : Array Oper) (l : List (Nat × Oper)) (K : St → Prop) (s : St) : Prop :=
  regB ops false n = true → (∀ p ∈ l, ops[p.1]? = some p.2) → ∀ E a w, Rel E n s a w → wpOps P ops (fun e a' w' => e = .normal ∧ ∃ s', K s' ∧ Rel E n s' a' w') (l.map (·.1)) a w
section
variable {P : Program} {tv : TV} {ops : Array Oper} {n : Nat} {s : St} {Q : Exit → St → Prop} {K : St → Prop} {l r : List (Nat × Oper)} {i : Nat} {o : Oper}
theorem WN.step (hP : TVOk P tv) {e : Eff} (D : Does P tv ops o s e) (h : ∀ v u, e.out v u → WN P n ops r K (outSt s o.dst v u)) : WN P n ops ((i, o) :: r) K s := by
  intro hb hl E a w R
  have hb' := hb
  simp only [regB, Bool.and_eq_true, decide_eq_true_eq] at hb'
  obtain ⟨⟨h9, hd⟩, _⟩ := hb'
  have ho := hl (i, o) (by simp)
  rw [List.map_cons, wpOps_cons]
  unfold wpOp
  simp only [ho]
  exact D.sound hP h9 (fun d hd' => dstB_get hd i o d ho hd') R fun v u hvu a' w' R' => h v u hvu hb (fun p hp => hl p (by simp [hp])) E a' w' R'
theorem WN.op (hP : Prog P tv) {p : Out} (hg : guardE ops s.env o = some true) (ha : stepD tv s o = some p) (hvc : p.1) (h : WN P n ops r K p.2.1) : WN P n ops ((i, o) :: r) K s := by
  unfold stepD at ha
  split at ha
  · rename_i st hst
    have ha := Option.some.inj ha
    subst ha
    refine WN.step hP.tv (.det hg st hst hvc) fun v u hvu => ?_
    obtain ⟨rfl, rfl⟩ := hvu
    exact h
  · cases ha
theorem WN.skip (hP : Prog P tv) (hg : guardE ops s.env o = some false) (h : WN P n ops r K (outSt s o.dst (some (.tup [])) [])) : WN P n ops ((i, o) :: r) K s := by
  refine WN.step hP.tv (.skip hg) fun v u hvu => ?_
  obtain ⟨rfl, rfl⟩ := hvu
  exact h
theorem WN.call (hP : Prog P tv) (m bvs : List Nat) {c : Call} {f : FuncId} {caps : List (Nat × Nat)} {post : LV → Heap → Prop} (hg : guardE ops s.env o = some true) (ho : o.op = .call c) (hc : calleeOf s c = some (f, caps))
    (hl : lendOk s.heap m bvs (hid o) = true) (C : CallsA P f (callArgs s m bvs c caps) (callHin s m bvs) post)
    (h : ∀ x hout, post x hout → ∃ s', callNext s m bvs o x hout = some s' ∧ WN P n ops r K s') : WN P n ops ((i, o) :: r) K s := by
  have hu : ∀ x hout, post x hout → ∃ u, callUpd s.heap m bvs (hid o) hout = some u := fun x hout hp => by
    obtain ⟨s', h1, _⟩ := h x hout hp
    unfold callNext at h1
    split at h1
    · exact ⟨_, by assumption⟩
    · cases h1
  refine WN.step hP.tv (.call hg c ho f caps m bvs post hc hl C hu) fun v u hvu => ?_
  obtain ⟨x, hout, hp, rfl, hu'⟩ := hvu
  obtain ⟨s', h1, h2⟩ := h x hout hp
  unfold callNext at h1
  rw [hu'] at h1
  have h1 := Option.some.inj h1
  subst h1
  exact h2
theorem WN.weak {s0 : St} (ht : Weak s s0) (h : WN P n ops l K s0) : WN P n ops l K s := fun hb hl E a w R => h hb hl E a w (ht E n a w R)
theorem WN.tidy (ts ls : List Nat) {s0 : St} (ht : tidy ts ls s = some s0) (h : WN P n ops l K s0) : WN P n ops l K s := h.weak fun E n a w R => R.tidy ht
theorem Weak.keep (ts : List Nat) : Weak s ⟨keepE ts s.env, s.heap⟩ := fun E n a w R => by
  obtain ⟨pl, hH, hdf, hn, henv⟩ := R
  exact ⟨pl, hH, hdf, hn, fun t lv ht => henv t lv (keepE_get ts s.env t lv ht)⟩
theorem Weak.eqv {s' : St} (h : Eqv s s') : Weak s s' := fun E n a w R => R.eqv h
theorem WN.done (h : K s) : WN P n ops [] K s := fun _ _ E a w R => ⟨rfl, s, h, R⟩
theorem WN.keep (ts : List Nat) (h : K ⟨keepE ts s.env, s.heap⟩) : WN P n ops [] K s := WN.weak (Weak.keep ts) (WN.done h)
theorem WN.seq (k : Nat) (h : WN P n ops (l.take k) (WN P n ops (l.drop k) K) s) : WN P n ops l K s := by
  intro hb hl E a w R
  have h1 := h hb (fun p hp => hl p (List.mem_of_mem_take hp)) E a w R
  have := wpOps_seq (Q' := fun e a' w' => e = .normal ∧ ∃ s', K s' ∧ Rel E n s' a' w') (l2 := (l.drop k).map (·.1)) (fun a w hq => ?_) (fun e a w hne hq => hne hq.1) h1
  · rw [← List.map_append, List.take_append_drop] at this
    exact this
  · obtain ⟨_, s', h2, R'⟩ := hq
    exact h2 hb (fun p hp => hl p (List.mem_of_mem_drop hp)) E a w R'
theorem eqv_bool (d : Nat) {b : Bool} (hb : getA d s.env = some (.v (.c (.bool b)))) : Eqv s ⟨(d, .v (.c (.bool b))) :: s.env, s.heap⟩ := by
  refine ⟨fun t => ?_, fun _ => rfl⟩
  simp only [getA]
  split
  · rename_i e
    rw [← e, hb]
  · rfl
theorem WN.cases (d : Nat) {b : Bool} (hb : getA d s.env = some (.v (.c (.bool b)))) (h1 : b = true → WN P n ops l K ⟨(d, .v (.c (.bool true))) :: s.env, s.heap⟩)
    (h0 : b = false → WN P n ops l K ⟨(d, .v (.c (.bool false))) :: s.env, s.heap⟩) : WN P n ops l K s := by
  have := Weak.eqv (eqv_bool d hb)
  cases b with
  | true => exact WN.weak this (h1 rfl)
  | false => exact WN.weak this (h0 rfl)
/-- Some operations that hang on a truth value, and what they come to on both ways. -/
theorem WN.join (k d : Nat) {b : Bool} {t : Nat} {p q : C} {env : List (Nat × LV)} {H : Heap} (hb : getA d s.env = some (.v (.c (.bool b))))
    (h1 : b = true → WN P n ops (l.take k) (fun s' => s' = ⟨(t, .v (.c p)) :: env, H⟩) ⟨(d, .v (.c (.bool true))) :: s.env, s.heap⟩)
    (h0 : b = false → WN P n ops (l.take k) (fun s' => s' = ⟨(t, .v (.c q)) :: env, H⟩) ⟨(d, .v (.c (.bool false))) :: s.env, s.heap⟩)
    (h : WN P n ops (l.drop k) K ⟨(t, .v (.c (if b = true then p else q))) :: env, H⟩) : WN P n ops l K s := by
  refine WN.seq k ?_
  have mono : ∀ {l : List (Nat × Oper)} {K K' : St → Prop} {s : St}, (∀ s, K s → K' s) → WN P n ops l K s → WN P n ops l K' s := by
    intro l K K' s hk h hb hl E a w R
    have := wpOps_seq (Q' := fun e a' w' => e = .normal ∧ ∃ s', K' s' ∧ Rel E n s' a' w') (l2 := []) (fun a w ⟨_, s', h2, R'⟩ => ⟨rfl, s', hk s' h2, R'⟩) (fun e a w hne hq => hne hq.1) (h hb hl E a w R)
    rwa [List.append_nil] at this
  refine WN.cases d hb (fun e => mono ?_ (h1 e)) (fun e => mono ?_ (h0 e))
  · rintro _ rfl
    subst e
    exact h
  · rintro _ rfl
    subst e
    exact h
theorem WP.regN (hP : Prog P tv) {id : Nat} {ops : List Oper} (hb : regB ops.toArray false n = true) (h : WN P n ops.toArray (numd 0 ops) (Q .normal) s) : WP P n (.region id ops.toArray false) Q s := by
  intro E a w R
  have h1 := h hb (fun p hp => by
    have := (numd_get ops 0 p hp).2
    simpa using this) E a w R
  rw [numd_map] at h1
  refine wp_mono (wp_region (Q := fun e a' w' => e = .normal ∧ ∃ s', Q .normal s' ∧ Rel E n s' a' w') ?_) fun e a w ⟨he, h⟩ => he ▸ h
  rw [List.range_eq_range']
  simpa using h1
theorem WP.keep {c : Code} (ts : List Nat) (h : WP P n c Q ⟨keepE ts s.env, s.heap⟩) : WP P n c Q s := h.weak fun E a w R => Weak.keep ts E n a w R
@[simp] theorem ite_bool (b : Prop) [Decidable b] (p q : Bool) : (if b then C.bool p else C.bool q) = C.bool (if b then p else q) := by split <;> rfl
@[simp] theorem ite_int (b : Prop) [Decidable b] (k : IntKind) (p q : Int) : (if b then C.int k p else C.int k q) = C.int k (if b then p else q) := by split <;> rfl
/-- An 'if' whose two ways both go on, each to a state of its own. -/
theorem WP.join {x y : Code} {c : Operand} {b : Bool} {t : Nat} {p q : C} {env : List (Nat × LV)} {H : Heap} (hc : s.evC c = .bool b)
    (h1 : b = true → WP P n x (ThenQ (fun s' => s' = ⟨(t, .v (.c p)) :: env, H⟩) Q) s) (h0 : b = false → WP P n y (ThenQ (fun s' => s' = ⟨(t, .v (.c q)) :: env, H⟩) Q) s)
    (h : Q .normal ⟨(t, .v (.c (if b = true then p else q))) :: env, H⟩) : WP P n (.cond c x y) Q s := by
  refine WP.cond hc (fun e => (h1 e).mono ?_) (fun e => (h0 e).mono ?_)
  · intro e' s' hs
    cases e' <;> try exact hs
    obtain rfl := hs
    subst e
    exact h
  · intro e' s' hs
    cases e' <;> try exact hs
    obtain rfl := hs
    subst e
    exact h
end
end Go.AM
