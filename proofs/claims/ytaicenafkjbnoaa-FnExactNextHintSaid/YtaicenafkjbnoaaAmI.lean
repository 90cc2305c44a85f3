/- The abstract machine's operations are the model's: literals, rows that are made and grow. -/
import Derived.Test.YtaicenafkjbnoaaAmH
set_option linter.unusedVariables false
set_option linter.unusedSimpArgs false
set_option linter.unusedSectionVars false
namespace Go.AM

theorem strOfInts_eq (l : List Int) : strOfInts l = strOfNums l := rfl

section
variable {P : Program} {tv : TV} {E : Ent} {n : Nat} {s : St} {a : Act} {w : World} {dst : Option Tmp} {ty : TypeId} {pos : String} {aft : Array Edge} {g : Option (Nat × Bool)} {st : Step} {id8 : Nat}

theorem sim_max (hd : ∀ d, dst = some d → d < n) (R : Rel E n s a w) (x y : Operand) (c : Call) (mx : Bool) (hc : c.callee = .builtin (if mx then .max else .min)) (hxs : c.args = #[x, y]) (h : actMax mx (s.evC x) (s.evC y) = some st) : Sim P E n s a w ⟨dst, .call c, ty, pos, aft, g⟩ st := by
  obtain ⟨pl, hH, hdf, hn, henv⟩ := R
  have hx := ev_c henv x
  have hy := ev_c henv y
  unfold actMax at h
  split at h
  · rename_i k p k' q hxc hyc
    split at h
    · rename_i hk
      subst hk
      injection h with h
      subst h
      rw [hxc] at hx
      rw [hyc] at hy
      have hx : a.eval x = .int k p := hx
      have hy : a.eval y = .int k q := hy
      cases mx
      · exact sim_val hH hdf hn henv hd rfl rfl (v := .int k (if q < p then q else p)) (by simp [execOp, resolve, hc, hxs, invoke, builtin, hx, hy, Builtin.min_, Builtin.min2]) rfl
      · exact sim_val hH hdf hn henv hd rfl rfl (v := .int k (if q > p then q else p)) (by simp [execOp, resolve, hc, hxs, invoke, builtin, hx, hy, Builtin.max_, Builtin.max2]) rfl
    · cases h
  · cases h
theorem capsOf_get {pl : Pl} (henv : ∀ t lv, getA t s.env = some lv → LVR E.b s.heap pl w lv (a.tmps.getD t undef)) : ∀ {caps : List Operand} {l : List (Nat × Nat)}, capsOf s caps = some l →
    caps.length = l.length ∧ ∀ (i id ver : Nat), l[i]? = some (id, ver) → ∃ u, (caps.map a.eval)[i]? = some u ∧ ptrR s.heap pl id ver 0 0 u
  | [], l, h => by simp [capsOf] at h; subst h; simp
  | x :: r, l, h => by
    simp only [capsOf] at h
    split at h
    · rename_i id ver l' hx hr
      injection h with h
      subst h
      have ih := capsOf_get henv hr
      refine ⟨by simp [ih.1], fun i id' ver' hi => ?_⟩
      cases i with
      | zero =>
        simp only [List.getElem?_cons_zero, Option.some.injEq, Prod.mk.injEq] at hi
        obtain ⟨rfl, rfl⟩ := hi
        have := ev_c henv x
        rw [hx] at this
        exact ⟨_, rfl, this.2⟩
      | succ i => simpa using ih.2 i id' ver' (by simpa using hi)
    · cases h
theorem sim_makeFunc (hd : ∀ d, dst = some d → d < n) (R : Rel E n s a w) (fn : Fn) (first caps : Array Operand) (h : act tv s id8 (.makeFunc fn first caps) = some st) : Sim P E n s a w ⟨dst, .makeFunc fn first caps, ty, pos, aft, g⟩ st := by
  obtain ⟨pl, hH, hdf, hn, henv⟩ := R
  simp only [act] at h
  unfold actFunc at h
  split at h
  · rename_i f
    split at h
    · rename_i hf
      simp only [Option.map_eq_some_iff] at h
      obtain ⟨l, hl, rfl⟩ := h
      have hc := capsOf_get henv hl
      have hfirst : first = #[] := by
        apply Array.ext'
        exact List.eq_nil_of_length_eq_zero hf
      subst hfirst
      refine sim_val (v := .func (.func f) #[] (caps.map a.eval)) hH hdf hn henv hd rfl rfl ?_ ⟨caps.toList.map a.eval, ?_, by simpa using hc.1, hc.2⟩
      · simp [execOp, Instr.makeFunc]
      · congr 1
        apply Array.ext'
        simp
    · cases h
  · cases h

/-! ### Rows as sources -/
theorem list_of_cells {w : World} {ad : Addr} {m : Nat} (h : ∀ k, k < m → ∃ u, w.cell? (ad.add k) = some u) : ∃ us : List Value, us.length = m ∧ ∀ (k : Nat) u, us[k]? = some u → w.cell? (ad.add k) = some u := by
  refine ⟨(List.range m).map fun k => (w.cell? (ad.add k)).getD undef, by simp, fun k u hk => ?_⟩
  have hlt : k < m := by
    have := (List.getElem?_eq_some_iff.1 hk).1
    simpa using this
  obtain ⟨u', hu'⟩ := h k hlt
  simp [hlt, hu'] at hk
  rw [hu', hk]
theorem reads_one {Z : Nat → Prop} {w : World} {v : Value} {d : D} (h : Reads Z w v d) : v.oneCell' = true := by cases h <;> rfl
theorem div_lt' {k m es : Nat} (h0 : 0 < es) (h : k < m * es) : k / es < m := (Nat.div_lt_iff_lt_mul h0).2 h
/-- A slice that is read: its cells, and what they read as. -/
theorem flat_of {d : D} (h : d.flatRow = true) {es : Nat} {xs : List (List D)} (he : d.elems = some (es, xs)) {j o : Nat} {e : D} (hj : (xs[j]?.bind (·[o]?)) = some e) : e.flat = true := by
  cases d <;> simp only [D.elems, Option.some.injEq, Prod.mk.injEq, reduceCtorEq] at he
  · obtain ⟨_, rfl⟩ := he
    simp only [List.getElem?_map, Option.bind_eq_some_iff, Option.map_eq_some_iff] at hj
    obtain ⟨x, ⟨y, _, rfl⟩, h2⟩ := hj
    cases o <;> simp at h2
    subst h2; rfl
  · obtain ⟨_, rfl⟩ := he
    simp only [List.getElem?_map, Option.bind_eq_some_iff, Option.map_eq_some_iff] at hj
    obtain ⟨x, ⟨y, _, rfl⟩, h2⟩ := hj
    cases o <;> simp at h2
    subst h2; rfl
  · obtain ⟨_, rfl⟩ := he
    simp only [D.flatRow, List.all_eq_true] at h
    obtain ⟨x, h1, h2⟩ := Option.bind_eq_some_iff.1 hj
    exact h x (List.mem_of_getElem? h1) e (List.mem_of_getElem? h2)

theorem row_src0 {pl : Pl} (hH : HR E s.heap pl w) {c : C} {v : Value} {d : D} {fr : Bool} (hc : CR E.b s.heap pl w c v) (hr : rowD0 s.heap c = some (d, fr)) :
    ∃ (ad : Option Addr) (cap : Nat) (xs : List (List D)) (us : List Value), v = .slice ad d.len cap ∧ d.elems = some (d.es, xs) ∧ 0 < d.es ∧ (∀ x ∈ xs, x.length = d.es) ∧ us.length = d.len * d.es ∧ (0 < d.len → ad ≠ none) ∧
      (∀ (q : Addr) (k : Nat) u, ad = some q → us[k]? = some u → w.cell? (q.add k) = some u) ∧ (∀ u ∈ us, u.oneCell' = true) ∧
      ∀ (j o : Nat) (e : D), (xs[j]?.bind (·[o]?)) = some e → ∃ u, us[j * d.es + o]? = some u ∧ Reads (zone E.b s.heap pl fr) w u e := by
  have gen : ∀ {v : Value} {d : D}, d.isRow = true → Reads (zone E.b s.heap pl fr) w v d → ∃ (ad : Option Addr) (cap : Nat) (xs : List (List D)) (us : List Value), v = .slice ad d.len cap ∧ d.elems = some (d.es, xs) ∧ 0 < d.es ∧ (∀ x ∈ xs, x.length = d.es) ∧ us.length = d.len * d.es ∧ (0 < d.len → ad ≠ none) ∧
      (∀ (q : Addr) (k : Nat) u, ad = some q → us[k]? = some u → w.cell? (q.add k) = some u) ∧ (∀ u ∈ us, u.oneCell' = true) ∧
      ∀ (j o : Nat) (e : D), (xs[j]?.bind (·[o]?)) = some e → ∃ u, us[j * d.es + o]? = some u ∧ Reads (zone E.b s.heap pl fr) w u e := by
    intro v d hrow hrd
    obtain ⟨ad, c, xs, q, f, hv, he, hl, hcc, hes0, hesx, ha, hcell, hrr⟩ := reads_inv hrd hrow
    refine ⟨ad, c, xs, (List.range (d.len * d.es)).map fun k => f (k / d.es) (k % d.es), hv, he, hes0, hesx, by simp, fun h => by rw [(ha h).1]; simp, fun q' k u hq hk => ?_, fun u hu => ?_, fun j o e hje => ?_⟩
    · have hlt : k < d.len * d.es := by
        have := (List.getElem?_eq_some_iff.1 hk).1
        simpa using this
      have hj := div_lt' hes0 hlt
      have : q' = q := by
        have := (ha (Nat.lt_of_le_of_lt (Nat.zero_le _) hj)).1
        rw [hq] at this
        injection this
      subst this
      have := hcell (k / d.es) (k % d.es) hj (Nat.mod_lt _ hes0)
      rw [Nat.div_add_mod' k d.es] at this
      simp [hlt] at hk
      rw [this, hk]
    · obtain ⟨k, hk, rfl⟩ := List.mem_map.1 hu
      have hlt : k < d.len * d.es := List.mem_range.1 hk
      have hj := div_lt' hes0 hlt
      have hjx : k / d.es < xs.length := by omega
      have hat := elems_at he hjx
      have ho : k % d.es < (d.at_ (k / d.es)).length := by rw [hesx _ (List.mem_of_getElem? hat)]; exact Nat.mod_lt _ hes0
      exact reads_one (hrr _ _ _ (by rw [hat]; exact List.getElem?_eq_getElem ho))
    · have hje' := hje
      cases hxj : xs[j]? with
      | none => rw [hxj] at hje; cases hje
      | some y =>
        rw [hxj] at hje
        have ho : o < d.es := by
          have := (List.getElem?_eq_some_iff.1 hje).1
          rw [hesx y (List.mem_of_getElem? hxj)] at this
          exact this
        have hj : j < d.len := by
          have := (List.getElem?_eq_some_iff.1 hxj).1
          omega
        refine ⟨f j o, ?_, hrr j o e hje'⟩
        have hk : j * d.es + o < d.len * d.es := by
          calc j * d.es + o < j * d.es + d.es := by omega
            _ = (j + 1) * d.es := by rw [Nat.add_mul]; omega
            _ ≤ d.len * d.es := Nat.mul_le_mul_right _ hj
        have e1 : (j * d.es + o) / d.es = j := by rw [Nat.mul_comm, Nat.mul_add_div hes0, Nat.div_eq_of_lt ho]; omega
        have e2 : (j * d.es + o) % d.es = o := by rw [Nat.mul_comm, Nat.mul_add_mod, Nat.mod_eq_of_lt ho]
        simp [hk, e1, e2]
  cases c <;> simp only [rowD0] at hr <;> try (cases hr; done)
  · injection hr with hr
    injection hr with h1 h2
    subst h1
    have hv : v = .slice none 0 0 := hc
    subst hv
    exact ⟨none, 0, [], [], rfl, rfl, Nat.one_pos, by simp, rfl, (fun h => by simp [D.len] at h), (fun q k u hq => nomatch hq), (by simp), fun j o e h => by simp at h⟩
  · injection hr with hr
    injection hr with h1 h2
    subst h1; subst h2
    exact gen hc.1 hc.2
  · rename_i id ver off len
    split at hr
    · rename_i ver' fr' dd hg
      split at hr
      · rename_i hver
        subst hver
        injection hr with hr
        injection hr with h1 h2
        subst h1; subst h2
        obtain ⟨a, cap, hv, h1, h2, h3⟩ := (by have := hc.2; unfold oslR at this; rw [hg] at this; exact this.2 rfl : ∃ a cap, v = .slice a len cap ∧ off + len ≤ dd.len ∧ len ≤ cap ∧ (0 < cap → ∃ b, pl.blk id = some b ∧ a = some ⟨b, off * dd.es, none⟩ ∧ off + cap ≤ pl.cap id))
        obtain ⟨es, xs, g1, g2, g3, g4, g5⟩ := hH.objs id _ hg
        have hcut := elems_cut g1 off len
        have hE := elems_es g1
        have hlen : (dd.cut off len).len = len := by rw [elems_len hcut]; rw [elems_len g1] at h1; simp; omega
        have hes' := elems_es hcut
        rw [hlen, hes']
        by_cases h0 : 0 < len
        · obtain ⟨b, hb, hab, hcap⟩ := h3 (by omega)
          obtain ⟨vs, T, k1, k2, k3, k4⟩ := g5 b hb
          have hfit : off * es + len * es ≤ vs.size := by
            rw [k2, ← Nat.add_mul]
            exact Nat.mul_le_mul_right _ (by omega)
          refine ⟨a, cap, _, (vs.toList.drop (off * es)).take (len * es), hv, hcut, g2, fun x hx => g3 x (List.mem_of_mem_drop (List.mem_of_mem_take hx)), by simp; omega, fun _ => by rw [hab]; simp, fun q k u hq hk => ?_, fun u hu => ?_, fun j o e hje => ?_⟩
          · rw [hab] at hq
            injection hq with hq
            subst hq
            rw [add_off, cell_of k1, hE]
            rw [List.getElem?_take] at hk
            split at hk
            · simpa using hk
            · cases hk
          · obtain ⟨k, hk⟩ := List.getElem?_of_mem hu
            rw [List.getElem?_take] at hk
            split at hk
            · rename_i hlt
              have hj := div_lt' g2 hlt
              have hjx : off + k / es < xs.length := by rw [elems_len g1] at h1; omega
              have hat := elems_at g1 hjx
              have ho : k % es < (dd.at_ (off + k / es)).length := by rw [g3 _ (List.mem_of_getElem? hat)]; exact Nat.mod_lt _ g2
              obtain ⟨u', hu', hr'⟩ := k4 _ _ _ (by rw [hat]; exact List.getElem?_eq_getElem ho)
              have e1 : (off + k / es) * es + k % es = off * es + k := by rw [Nat.add_mul, Nat.add_assoc, Nat.div_add_mod' k es]
              rw [e1] at hu'
              have : u' = u := by
                have hk' : vs[off * es + k]? = some u := by simpa using hk
                rw [hu'] at hk'
                injection hk'
              rw [← this]
              exact reads_one hr'
            · cases hk
          · have hj : j < len := by
              cases hxj : ((xs.drop off).take len)[j]? with
              | none => rw [hxj] at hje; cases hje
              | some y =>
                have := (List.getElem?_eq_some_iff.1 hxj).1
                simp at this
                omega
            rw [List.getElem?_take, if_pos hj, List.getElem?_drop] at hje
            obtain ⟨u, hu, hr'⟩ := k4 _ _ _ hje
            have ho : o < es := by
              cases hxj : xs[off + j]? with
              | none => rw [hxj] at hje; cases hje
              | some y =>
                rw [hxj] at hje
                have := (List.getElem?_eq_some_iff.1 hje).1
                rw [g3 y (List.mem_of_getElem? hxj)] at this
                exact this
            have hk : j * es + o < len * es := by
              calc j * es + o < j * es + es := by omega
                _ = (j + 1) * es := by rw [Nat.add_mul]; omega
                _ ≤ len * es := Nat.mul_le_mul_right _ hj
            refine ⟨u, ?_, hr'⟩
            rw [List.getElem?_take, if_pos hk, List.getElem?_drop, ← Nat.add_assoc, ← Nat.add_mul]
            simpa using hu
        · obtain rfl : len = 0 := by omega
          exact ⟨a, cap, _, [], hv, hcut, g2, fun x hx => by simp at hx, by simp, fun h => absurd h (by omega), fun q k u _ hk => by simp at hk, by simp, fun j o e h => by simp at h⟩
      · cases hr
    · cases hr
theorem row_src {pl : Pl} (hH : HR E s.heap pl w) {c : C} {v : Value} {d : D} {fr : Bool} (hc : CR E.b s.heap pl w c v) (hr : rowD s.heap c = some (d, fr)) :
    ∃ (ad : Option Addr) (cap : Nat) (xs : List (List D)) (us : List Value), v = .slice ad d.len cap ∧ d.elems = some (d.es, xs) ∧ 0 < d.es ∧ (∀ x ∈ xs, x.length = d.es) ∧ us.length = d.len * d.es ∧ (0 < d.len → ad ≠ none) ∧
      (∀ (q : Addr) (k : Nat) u, ad = some q → us[k]? = some u → w.cell? (q.add k) = some u) ∧ (∀ u ∈ us, u.oneCell' = true) ∧
      ∀ (j o : Nat) (e : D), (xs[j]?.bind (·[o]?)) = some e → ∃ u, us[j * d.es + o]? = some u ∧ Reads (zone E.b s.heap pl fr) w u e := by
  unfold rowD at hr
  obtain ⟨r0, h0, h1⟩ := Option.map_eq_some_iff.1 hr
  obtain ⟨d0, f0⟩ := r0
  simp only [Prod.mk.injEq] at h1
  obtain ⟨rfl, rfl⟩ := h1
  obtain ⟨ad, cap, xs, us, g1, g2, g3, g4, g5, g6, g7, g8, g9⟩ := row_src0 hH hc h0
  refine ⟨ad, cap, xs, us, g1, g2, g3, g4, g5, g6, g7, g8, fun j o e he => ?_⟩
  obtain ⟨u, hu, hrd⟩ := g9 j o e he
  refine ⟨u, hu, ?_⟩
  cases hf : d0.flatRow with
  | true => exact hrd.flat (flat_of hf g2 he)
  | false => simpa using hrd
end
end Go.AM
