/- The abstract machine: regions, in order and in any order. -/
import Derived.Test.YtaicenafkjbnoaaAmR
set_option linter.unusedVariables false
set_option linter.unusedSimpArgs false
set_option linter.unusedSectionVars false
namespace Go.AM

/-! ### Which operation follows which -/
inductive Pre (ops : Array Oper) : Nat → Nat → Prop
  | one {i : Nat} {o : Oper} {e : Edge} (h : ops[i]? = some o) (he : e ∈ o.after.toList) (hb : Region.binds .any e = true) : Pre ops i e.on
  | step {i k j : Nat} (h : Pre ops i k) (h' : Pre ops k j) : Pre ops i j
def maskOne (acc : List Nat) (l : List Edge) : Nat := l.foldl (fun s e => if Region.binds .any e = true then s ||| 2 ^ e.on ||| acc.getD e.on 0 else s) 0
def maskGo : List Oper → List Nat → List Nat
  | [], acc => acc
  | o :: r, acc => maskGo r (acc ++ [maskOne acc o.after.toList])
def ordB (ops : Array Oper) (j i : Nat) : Bool := ((maskGo ops.toList []).getD i 0).testBit j

theorem maskOne_get {acc : List Nat} {S : Nat → Prop} : ∀ {l : List Edge} {s : Nat} {j : Nat}, (l.foldl (fun s e => if Region.binds .any e = true then s ||| 2 ^ e.on ||| acc.getD e.on 0 else s) s).testBit j = true →
    (∀ k, s.testBit k = true → S k) → (∀ e ∈ l, Region.binds .any e = true → S e.on ∧ ∀ k, (acc.getD e.on 0).testBit k = true → S k) → S j
  | [], s, j, h, h1, _ => h1 j h
  | e :: r, s, j, h, h1, h2 => by
    simp only [List.foldl] at h
    refine maskOne_get h (fun k hk => ?_) fun e' he' => h2 e' (by simp [he'])
    split at hk
    · rename_i hb
      have h3 := h2 e (by simp) hb
      simp only [Nat.testBit_or, Bool.or_eq_true] at hk
      rcases hk with (hk | hk) | hk
      · exact h1 k hk
      · rw [Nat.testBit_two_pow] at hk
        have : e.on = k := by simpa using hk
        exact this ▸ h3.1
      · exact h3.2 k hk
    · exact h1 k hk
theorem maskGo_get {ops : Array Oper} : ∀ (r : List Oper) (acc : List Nat), ops.toList.drop acc.length = r → (∀ i j, (acc.getD i 0).testBit j = true → Pre ops i j) →
    ∀ i j, ((maskGo r acc).getD i 0).testBit j = true → Pre ops i j
  | [], acc, _, h, i, j, hj => h i j hj
  | o :: r, acc, hr, h, i, j, hj => by
    simp only [maskGo] at hj
    have ho : ops[acc.length]? = some o := by
      have : (ops.toList.drop acc.length)[0]? = some o := by rw [hr]; rfl
      simpa using this
    refine maskGo_get r (acc ++ [maskOne acc o.after.toList]) ?_ (fun i j hij => ?_) i j hj
    · have := congrArg (List.drop 1) hr
      simpa [Nat.add_comm] using this
    · rw [List.getD_eq_getElem?_getD, List.getElem?_append] at hij
      split at hij
      · exact h i j (by rw [List.getD_eq_getElem?_getD]; exact hij)
      · rename_i hlt
        by_cases he : i = acc.length
        · subst he
          simp only [Nat.sub_self, List.getElem?_cons_zero, Option.getD_some] at hij
          refine maskOne_get (S := fun j => Pre ops acc.length j) hij (fun k hk => by simp at hk) fun e he hb => ⟨.one ho he hb, fun k hk => .step (.one ho he hb) (h _ _ hk)⟩
        · have : i - acc.length ≠ 0 := by omega
          rw [List.getElem?_eq_none (by simp; omega)] at hij
          simp at hij
theorem ordB_pre {ops : Array Oper} {j i : Nat} (h : ordB ops j i = true) : Pre ops i j := maskGo_get ops.toList [] (by simp) (fun i j h => by simp at h) i j h
theorem Pre.closed {ops : Array Oper} {L : Nat → Prop} (hL : ∀ i, L i → ∀ o e, ops[i]? = some o → e ∈ o.after.toList → Region.binds .any e = true → L e.on) {i j : Nat} (h : Pre ops i j)
    (hi : ∀ o e, ops[i]? = some o → e ∈ o.after.toList → Region.binds .any e = true → L e.on) : L j := by
  induction h with
  | one h he hb => exact hi _ _ h he hb
  | step h h' ih ih' => exact ih' fun o e ho he hb => hL _ (ih hi) o e ho he hb

/-! ### Footprints apart -/
def disj (l m : List Nat) : Bool := l.all fun x => !m.contains x
theorem disj_iff {l m : List Nat} : disj l m = true ↔ ∀ x ∈ l, x ∉ m := by simp [disj]
def pairB (ops : Array Oper) (i j : Nat) (rd wr rj wj : List Nat) : Bool :=
  match ops[i]?, ops[j]? with
  | some x, some y => y.apart ops x && !(isCall x && isCall y) && disj rd wj && disj wr rj && disj wr wj
  | _, _ => false
def apartB (ops : Array Oper) (i : Nat) (acc : List (Nat × List Nat × List Nat)) (rd wr : List Nat) : Bool :=
  acc.all fun p => ordB ops p.1 i || pairB ops i p.1 rd wr p.2.1 p.2.2

/-! ### A region's run -/
def WR (P : Program) (tv : TV) (ops : Array Oper) (dr : Bool) : List Nat → List (Nat × List Nat × List Nat) → (St → Prop) → St → Prop
  | [], _, Q, s => Q s
  | i :: r, acc, Q, s => ∃ o e, ops[i]? = some o ∧ Does P tv ops o s e ∧ (dr = true → apartB ops i acc e.rd e.wr = true ∧ ∃ v u, e.out v u) ∧
      ∀ v u, e.out v u → WR P tv ops dr r ((i, e.rd, e.wr) :: acc) Q (outSt s o.dst v u)

section
variable {P : Program} {tv : TV} {ops : Array Oper} {s s' : St} {E : Ent} {n : Nat} {a : Act} {w : World}
theorem outSt_eqv (h : Eqv s s') (d : Option Tmp) (v : Option LV) (u : List (Nat × Obj)) : Eqv (outSt s d v u) (outSt s' d v u) :=
  ⟨fun t => by simp only [outSt, setE_get, h.env t], fun id => by simp only [outSt, updH_at, h.heap id]⟩
theorem WR.eqv {dr : Bool} {Q : St → Prop} (hQ : ∀ s s', Q s → Eqv s s' → Q s') : ∀ {l : List Nat} {acc acc' : List (Nat × List Nat × List Nat)} {s s' : St}, WR P tv ops dr l acc Q s → Eqv s s' → (∀ x ∈ acc', x ∈ acc) → WR P tv ops dr l acc' Q s'
  | [], acc, acc', s, s', h, he, _ => hQ _ _ h he
  | i :: r, acc, acc', s, s', ⟨o, e, ho, D, hd, hk⟩, he, ha => by
    refine ⟨o, e, ho, D.local (fun t _ => he.env t) (fun id _ => he.heap id), fun hdr => ⟨?_, (hd hdr).2⟩, fun v u h => (hk v u h).eqv hQ (outSt_eqv he _ v u) fun x hx => ?_⟩
    · have := (hd hdr).1
      simp only [apartB, List.all_eq_true] at this ⊢
      exact fun x hx => this x (ha x hx)
    · simp only [List.mem_cons] at hx ⊢
      exact hx.imp id (ha x)
/-- In order. -/
theorem WR.run (hP : TVOk P tv) (hn9 : n ≤ 999) (hd : ∀ (i : Nat) o d, ops[i]? = some o → o.dst = some d → d < n) {dr : Bool} {Q : St → Prop} {K : Exit → Act → World → Prop} (hK : ∀ s a w, Q s → Rel E n s a w → K .normal a w) :
    ∀ {l : List Nat} {acc : List (Nat × List Nat × List Nat)} {s : St} {a : Act} {w : World}, WR P tv ops dr l acc Q s → Rel E n s a w → wpOps P ops K l a w
  | [], acc, s, a, w, h, R => hK s a w h R
  | i :: r, acc, s, a, w, ⟨o, e, ho, D, _, hk⟩, R => by
    rw [wpOps_cons]
    unfold wpOp
    rw [ho]
    exact D.sound hP hn9 (fun d h => hd i o d ho h) R fun v u h a' w' R' => (hk v u h).run hP hn9 hd hK R'

structure Indep (ops : Array Oper) (x y : Oper) (ex ey : Eff) : Prop where
  apart : y.apart ops x = true
  calls : isCall x = true → isCall y = true → False
  rdwr : ∀ id ∈ ex.rd, id ∉ ey.wr
  wrrd : ∀ id ∈ ex.wr, id ∉ ey.rd
  wrwr : ∀ id ∈ ex.wr, id ∉ ey.wr
theorem pair_get {i j : Nat} {x y : Oper} {ex ey : Eff} (hx : ops[i]? = some x) (hy : ops[j]? = some y) (h : pairB ops i j ex.rd ex.wr ey.rd ey.wr = true) : Indep ops x y ex ey := by
  unfold pairB at h
  rw [hx, hy] at h
  simp only [Bool.and_eq_true, disj_iff, Bool.not_eq_true', Bool.and_eq_false_iff] at h
  obtain ⟨⟨⟨⟨h1, h2⟩, h3⟩, h4⟩, h5⟩ := h
  exact ⟨h1, fun a b => by rcases h2 with h2 | h2 <;> simp_all, h3, h4, h5⟩
theorem apart_symm {x y : Oper} (h : y.apart ops x = true) : x.apart ops y = true := by
  obtain ⟨h1, h2, h3⟩ := Oper.apart_spec h
  unfold Oper.apart
  cases hx : x.dst with
  | none =>
    cases hy : y.dst with
    | none => rfl
    | some d => simpa using h1 d hy
  | some d =>
    cases hy : y.dst with
    | none => simpa [hy] using h3 d hx
    | some d' =>
      have a1 := h1 d' hy
      have a2 := h2 d' hy
      have a3 := h3 d hx
      rw [hx] at a2
      simp only [List.contains_eq_mem, Bool.and_eq_true, Bool.not_eq_true', decide_eq_false_iff_not, bne_iff_ne, ne_eq]
      exact ⟨⟨a3, fun e => a2 e.symm⟩, a1⟩
theorem pair_symm {i j : Nat} {x y : Oper} {ex ey : Eff} (hx : ops[i]? = some x) (hy : ops[j]? = some y) (I : Indep ops x y ex ey) : pairB ops j i ey.rd ey.wr ex.rd ex.wr = true := by
  unfold pairB
  rw [hx, hy]
  simp only [Bool.and_eq_true, disj_iff, Bool.not_eq_true', Bool.and_eq_false_iff]
  refine ⟨⟨⟨⟨apart_symm I.apart, ?_⟩, fun id h h' => I.wrrd id h' h⟩, fun id h h' => I.rdwr id h' h⟩, fun id h h' => I.wrwr id h' h⟩
  cases hc : isCall y with
  | false => exact .inl rfl
  | true =>
    cases hc' : isCall x with
    | false => exact .inr rfl
    | true => exact (I.calls hc' hc).elim
theorem same_after {x y : Oper} {ey : Eff} (hap : y.apart ops x = true) {v : Option LV} {u : List (Nat × Obj)} (hf : ∀ id, id ∉ ey.wr → updAt id u = none) :
    (∀ t ∈ x.looksAt ops, getA t s.env = getA t (outSt s y.dst v u).env) ∧ ∀ l : List Nat, (∀ id ∈ l, id ∉ ey.wr) → SameAt s.heap (outSt s y.dst v u).heap l := by
  obtain ⟨h1, h2, h3⟩ := Oper.apart_spec hap
  refine ⟨fun t ht => ?_, fun l hl id hid => ?_⟩
  · simp only [outSt, setE_get]
    split
    · rename_i e
      exact (h1 t e ht).elim
    · rfl
  · simp only [outSt, updH_at, hf id (hl id hid)]
theorem swap_eqv {x y : Oper} {ex ey : Eff} (hap : y.apart ops x = true) (hw : ∀ id ∈ ex.wr, id ∉ ey.wr) {v v' : Option LV} {u u' : List (Nat × Obj)} (hf : ∀ id, id ∉ ey.wr → updAt id u = none) (hf' : ∀ id, id ∉ ex.wr → updAt id u' = none) :
    Eqv (outSt (outSt s y.dst v u) x.dst v' u') (outSt (outSt s x.dst v' u') y.dst v u) := by
  obtain ⟨h1, h2, h3⟩ := Oper.apart_spec hap
  refine ⟨fun t => ?_, fun id => ?_⟩
  · simp only [outSt, setE_get]
    by_cases e1 : x.dst = some t
    · by_cases e2 : y.dst = some t
      · exact (h2 t e2 e1).elim
      · simp [e1, e2]
    · simp [e1]
  · simp only [outSt, updH_at]
    by_cases e1 : id ∈ ex.wr
    · rw [hf id (hw id e1)]
    · rw [hf' id e1]
theorem WR.front {Q : St → Prop} (hQ : ∀ s s', Q s → Eqv s s' → Q s') {i : Nat} {l2 : List Nat} : ∀ {l1 : List Nat} {acc : List (Nat × List Nat × List Nat)} {s : St}, WR P tv ops true (l1 ++ i :: l2) acc Q s → (∀ j ∈ l1, ordB ops j i = false) →
    WR P tv ops true (i :: (l1 ++ l2)) acc Q s
  | [], acc, s, h, _ => h
  | j :: l1, acc, s, ⟨oj, ej, hoj, Dj, hj, hk⟩, hno => by
    obtain ⟨hja, v0, u0, h0⟩ := hj rfl
    have ih : ∀ v u, ej.out v u → WR P tv ops true (i :: (l1 ++ l2)) ((j, ej.rd, ej.wr) :: acc) Q (outSt s oj.dst v u) := fun v u h => (hk v u h).front hQ fun k hk => hno k (by simp [hk])
    obtain ⟨oi, ei, hoi, Di, hi, hki⟩ := ih v0 u0 h0
    obtain ⟨hia, vi, ui, hi0⟩ := hi rfl
    have hia' := hia
    simp only [apartB, List.all_cons, Bool.and_eq_true, hno j (by simp), Bool.false_or] at hia
    have I := pair_get hoi hoj hia.1
    have S0 := same_after (s := s) I.apart (v := v0) (fun id => Dj.frame h0 (id := id))
    have Dis : Does P tv ops oi s ei := Di.local (fun t ht => (S0.1 t ht).symm) (fun id hid => (S0.2 ei.rd I.rdwr id hid).symm)
    refine ⟨oi, ei, hoi, Dis, fun _ => ⟨hia.2, vi, ui, hi0⟩, fun v' u' h' => ?_⟩
    have S1 := same_after (s := s) (apart_symm I.apart) (v := v') (fun id => Dis.frame h' (id := id))
    refine ⟨oj, ej, hoj, Dj.local S1.1 (S1.2 ej.rd fun id h h' => I.wrrd id h' h), fun _ => ⟨?_, v0, u0, h0⟩, fun v u hvu => ?_⟩
    · simp only [apartB, List.all_cons, Bool.and_eq_true]
      refine ⟨?_, hja⟩
      rw [pair_symm hoi hoj I, Bool.or_true]
    · have fin : WR P tv ops true (l1 ++ l2) ((i, ei.rd, ei.wr) :: (j, ej.rd, ej.wr) :: acc) Q (outSt (outSt s oj.dst v u) oi.dst v' u') := by
        cases hc : isCall oi with
        | false =>
          obtain ⟨oi', ei', hoi', Di', _, hki'⟩ := ih v u hvu
          rw [hoi] at hoi'
          injection hoi' with hoi'
          subst hoi'
          have S2 := same_after (s := s) I.apart (v := v) (fun id => Dj.frame hvu (id := id))
          have := Does.only hc Di' (Dis.local S2.1 (S2.2 ei.rd I.rdwr))
          subst this
          exact hki' v' u' h'
        | true =>
          have hcj : isCall oj = false := by
            cases hcj : isCall oj with
            | false => rfl
            | true => exact (I.calls hc hcj).elim
          obtain ⟨v1, u1, _, hu⟩ := Does.one hcj Dj
          obtain ⟨rfl, rfl⟩ := hu v u hvu
          obtain ⟨rfl, rfl⟩ := hu v0 u0 h0
          exact hki v' u' h'
      refine fin.eqv hQ (swap_eqv I.apart I.wrwr (fun id => Dj.frame hvu (id := id)) (fun id => Dis.frame h' (id := id))) fun x hx => ?_
      simp only [List.mem_cons] at hx ⊢
      rcases hx with h | h | h
      · exact .inr (.inl h)
      · exact .inl h
      · exact .inr (.inr h)

/-- What is still to be carried out. -/
structure Todo (ops : Array Oper) (listed : Array Bool) (l : List Nat) : Prop where
  size : listed.size = ops.size
  sorted : l.Pairwise (· < ·)
  lt : ∀ i ∈ l, i < ops.size
  get : ∀ i, i < ops.size → listed[i]? = some (!decide (i ∈ l))
  closed : ∀ i, i ∉ l → ∀ o e, ops[i]? = some o → e ∈ o.after.toList → Region.binds .any e = true → e.on ∉ l
theorem Todo.ready {listed : Array Bool} {l : List Nat} (T : Todo ops listed l) {i : Nat} : i ∈ Region.ready .any ops listed ↔ i ∈ l ∧ ∀ o e, ops[i]? = some o → e ∈ o.after.toList → Region.binds .any e = true → e.on < ops.size ∧ e.on ∉ l := by
  have hg : ∀ i d, i < ops.size → listed.getD i d = !decide (i ∈ l) := fun i d hi => by
    rw [Array.getD_eq_getD_getElem?, T.get i hi]; rfl
  have hg2 : ∀ i d, ¬ i < ops.size → listed.getD i d = d := fun i d hi => by
    rw [Array.getD_eq_getD_getElem?, Array.getElem?_eq_none (by rw [T.size]; omega)]; rfl
  simp only [Region.ready, List.mem_filter, List.mem_range, Bool.and_eq_true]
  constructor
  · rintro ⟨h1, h2, h3⟩
    rw [hg i true h1] at h2
    refine ⟨by simpa using h2, fun o e ho he hb => ?_⟩
    rw [ho] at h3
    simp only [Option.map_some, Option.getD_some, Array.all_eq_true'] at h3
    have := h3 e (by simpa using he)
    rw [hb] at this
    simp only [Bool.not_true, Bool.false_or] at this
    by_cases hlt : e.on < ops.size
    · rw [hg _ _ hlt] at this
      exact ⟨hlt, by simpa using this⟩
    · rw [hg2 _ _ hlt] at this
      cases this
  · rintro ⟨h1, h2⟩
    have hlt := T.lt i h1
    refine ⟨hlt, by rw [hg i true hlt]; simpa using h1, ?_⟩
    rw [Array.getElem?_eq_getElem hlt]
    simp only [Option.map_some, Option.getD_some, Array.all_eq_true']
    intro e he
    cases hb : Region.binds .any e with
    | false => rfl
    | true =>
      obtain ⟨g1, g2⟩ := h2 _ e (Array.getElem?_eq_getElem hlt) (by simpa using he) hb
      rw [hg _ _ g1]
      simpa using g2
/-- Edges go back. -/
def backB (ops : Array Oper) : Bool := ops.toList.zipIdx.all fun p => p.1.after.toList.all fun e => decide (e.on < p.2)
theorem backB_get (h : backB ops = true) {i : Nat} {o : Oper} (ho : ops[i]? = some o) {e : Edge} (he : e ∈ o.after.toList) : e.on < i := by
  simp only [backB, List.all_eq_true, decide_eq_true_eq] at h
  have : (o, i) ∈ ops.toList.zipIdx := by
    rw [List.mem_zipIdx_iff_getElem?]
    simpa using ho
  exact h _ this e he
theorem WR.any (hP : TVOk P tv) (hn9 : n ≤ 999) (hd : ∀ (i : Nat) o d, ops[i]? = some o → o.dst = some d → d < n) (hb : backB ops = true) {Q : St → Prop} (hQ : ∀ s s', Q s → Eqv s s' → Q s') {K : Exit → Act → World → Prop}
    (hK : ∀ s a w, Q s → Rel E n s a w → K .normal a w) : ∀ (fuel : Nat) {l : List Nat} {listed : Array Bool} {acc : List (Nat × List Nat × List Nat)} {s : St} {a : Act} {w : World}, fuel = l.length → Todo ops listed l → WR P tv ops true l acc Q s → Rel E n s a w →
    wpAny P .any ops K fuel listed a w
  | 0, l, listed, acc, s, a, w, hf, T, h, R => by
    have : l = [] := List.length_eq_zero_iff.1 hf.symm
    subst this
    refine ⟨?_, hK s a w h R⟩
    cases hr : Region.ready .any ops listed with
    | nil => rfl
    | cons x r => exact absurd (T.ready.1 (hr ▸ List.mem_cons_self)).1 (by simp)
  | fuel + 1, l, listed, acc, s, a, w, hf, T, h, R => by
    refine ⟨fun hr => ?_, fun i hi => ?_⟩
    · exfalso
      cases l with
      | nil => simp at hf
      | cons x r =>
        have : x ∈ Region.ready .any ops listed := T.ready.2 ⟨by simp, fun o e ho he hbb => by
          have hlt := backB_get hb ho he
          have hx := T.lt x (by simp)
          refine ⟨by omega, fun hm => ?_⟩
          simp only [List.mem_cons] at hm
          rcases hm with hm | hm
          · omega
          · have := (List.pairwise_cons.1 T.sorted).1 _ hm
            omega⟩
        rw [hr] at this
        simp at this
    · obtain ⟨hil, hpre⟩ := T.ready.1 hi
      obtain ⟨l1, l2, rfl⟩ := List.append_of_mem hil
      have hno : ∀ j ∈ l1, ordB ops j i = false := fun j hj => by
        cases ho : ordB ops j i with
        | false => rfl
        | true =>
          exfalso
          exact Pre.closed (L := fun k => k ∉ l1 ++ i :: l2) T.closed (ordB_pre ho) (fun o e ho he hbb => (hpre o e ho he hbb).2) (by simp [hj])
      obtain ⟨o, e, ho, D, _, hk⟩ := h.front hQ hno
      unfold wpOp
      rw [ho]
      refine D.sound hP hn9 (fun d h => hd i o d ho h) R fun v u hvu a' w' R' => ?_
      have hnd : (l1 ++ i :: l2).Nodup := T.sorted.imp (fun h => Nat.ne_of_lt h)
      have hni : i ∉ l1 ++ l2 := by
        rw [List.nodup_append] at hnd
        obtain ⟨_, h2, h3⟩ := hnd
        intro hm
        rcases List.mem_append.1 hm with hm | hm
        · exact h3 i hm i (by simp) rfl
        · exact (List.nodup_cons.1 h2).1 hm
      have hmem : ∀ k, k ∈ l1 ++ l2 ↔ (k ∈ l1 ++ i :: l2 ∧ k ≠ i) := fun k => by
        constructor
        · intro hk
          refine ⟨?_, fun e => hni (e ▸ hk)⟩
          rcases List.mem_append.1 hk with h | h <;> simp [h]
        · rintro ⟨h1, h2⟩
          simp only [List.mem_append, List.mem_cons] at h1 ⊢
          rcases h1 with h | h | h
          · exact .inl h
          · exact (h2 h).elim
          · exact .inr h
      refine WR.any hP hn9 hd hb hQ hK fuel ?_ ⟨?_, ?_, ?_, ?_, ?_⟩ (hk v u hvu) R'
      · simp only [List.length_append, List.length_cons] at hf ⊢
        omega
      · simp [T.size]
      · exact T.sorted.sublist (List.Sublist.append_left (List.sublist_cons_self i l2) l1)
      · exact fun k hk => T.lt k ((hmem k).1 hk).1
      · intro k hk
        rw [Array.getElem?_setIfInBounds]
        split
        · rename_i e
          subst e
          rw [if_pos (by rw [T.size]; exact hk)]
          simp [hni]
        · rename_i hne
          rw [T.get k hk]
          congr 2
          rw [decide_eq_decide]
          exact ⟨fun h => (hmem k).2 ⟨h, fun e => hne e.symm⟩, fun h => ((hmem k).1 h).1⟩
      · intro k hk o' e' ho' he' hbb hm
        have hm' := ((hmem _).1 hm).1
        by_cases hki : k = i
        · subst hki
          exact (hpre o' e' ho' he' hbb).2 hm'
        · exact T.closed k (fun h => hk ((hmem k).2 ⟨h, hki⟩)) o' e' ho' he' hbb hm'
theorem Todo.start (hb : backB ops = true) : Todo ops (Array.replicate ops.size false) (List.range ops.size) := by
  refine ⟨by simp, List.pairwise_lt_range, fun i hi => List.mem_range.1 hi, fun i hi => by simp [hi], fun i hi o e ho he hbb => ?_⟩
  exfalso
  apply hi
  rw [List.mem_range]
  exact (Array.getElem?_eq_some_iff.1 ho).1
end
end Go.AM
