/- The abstract machine's operations are the model's: memory that is read and written, parts, lengths. -/
import Derived.Test.YtaicenafkjbnoaaAmF
set_option linter.unusedVariables false
set_option linter.unusedSimpArgs false
set_option linter.unusedSectionVars false
namespace Go.AM

theorem reads_scal {Z : Nat → Prop} {w : World} {v : Value} {d : D} (h : Reads Z w v d) : match d with | .int k n => v = .int k n | .bool b => v = .bool b | .str s => v = .string s | _ => True := by
  cases h with
  | int k n => rfl
  | bool b => rfl
  | str s => rfl
  | slice a n c d es xs he => cases d <;> first | trivial | (simp [D.elems] at he)
theorem cr_ofD {B : Bs} {H : Heap} {pl : Pl} {w : World} {fr : Bool} {d : D} {v : Value} (h : Reads (zone B H pl fr) w v d) : CR B H pl w (ofD fr d) v := by
  have := reads_scal h
  cases d <;> first | exact this | exact ⟨rfl, h⟩
theorem cr_scal {B : Bs} {H : Heap} {pl : Pl} {w : World} {c : C} {d : D} {v : Value} (h : scalD c = some d) (hc : CR B H pl w c v) (Z : Nat → Prop) (w' : World) : Reads Z w' v d ∧ d.flat = true := by
  cases c <;> simp only [scalD] at h <;> first | (cases h; done) | skip
  all_goals
    injection h with h
    subst h
    obtain rfl : v = _ := hc
    first | exact ⟨.int _ _, rfl⟩ | exact ⟨.bool _, rfl⟩ | exact ⟨.str _, rfl⟩

section
variable {P : Program} {tv : TV} {E : Ent} {n : Nat} {s : St} {a : Act} {w : World} {dst : Option Tmp} {ty : TypeId} {pos : String} {aft : Array Edge} {g : Option (Nat × Bool)} {st : Step} {id8 : Nat}

theorem run_isAgg {t : TypeId} {d : TypeDesc} {w : World} (h : P.underlying t = some d) : (isAgg t).run P w = .ok (isAggD d) w := by
  unfold isAgg
  rw [Sem.run_bind, run_underlying h]
  cases d <;> rfl
theorem run_loadVar {t : TypeId} {i : TypeInfo} {d : TypeDesc} (h1 : P.info? t = some i) (h2 : P.underlying t = some d) {ad : Addr} (us : List Value) (hu : ∀ (j : Nat) u, us[j]? = some u → w.cell? (ad.add j) = some u)
    (hs : isAggD d = true → us.length = i.size) (h0 : isAggD d = false → ∃ u, us = [u]) :
    (loadVar t ad).run P w = .ok (if isAggD d then .agg us.toArray else us.headD undef) w := by
  unfold loadVar
  rw [Sem.run_bind, run_isAgg h2]
  cases hd : isAggD d with
  | true =>
    have hl := run_loadCells_list (P := P) w ad us hu
    rw [hs hd] at hl
    simp [sizeOf, typeInfo, h1, hl]
  | false =>
    obtain ⟨u, rfl⟩ := h0 hd
    have := hu 0 u rfl
    rw [show ad.add 0 = ad from by simp [Addr.add]] at this
    simp [this]
/-- A load of these cells. -/
theorem load_sim (hP : TVOk P tv) {pl : Pl} {t : TypeId} {tt : Ty} (ht : tv t = some tt) {cs : List C} {ad : Addr} (hc : ∀ (j : Nat) c, cs[j]? = some c → ∃ u, w.cell? (ad.add j) = some u ∧ CR E.b s.heap pl w c u)
    {v : V} (hv : loadCs tt cs = some v) : ∃ u, (loadVar t ad).run P w = .ok u w ∧ VR E.b s.heap pl w v u := by
  obtain ⟨i, d, z, h1, h2, h3, h4, h5, h6, h7, h8, h9⟩ := ofTV hP ht
  have hex : ∃ us : List Value, us.length = cs.length ∧ ∀ (j : Nat) c, cs[j]? = some c → ∃ u, us[j]? = some u ∧ w.cell? (ad.add j) = some u ∧ CR E.b s.heap pl w c u := by
    refine ⟨(List.range cs.length).map fun j => (w.cell? (ad.add j)).getD undef, by simp, fun j c hj => ?_⟩
    obtain ⟨u, hu, hr⟩ := hc j c hj
    have hlt : j < cs.length := (List.getElem?_eq_some_iff.1 hj).1
    exact ⟨u, by simp [hlt, hu], hu, hr⟩
  obtain ⟨us, hl, hus⟩ := hex
  have hu : ∀ (j : Nat) u, us[j]? = some u → w.cell? (ad.add j) = some u := fun j u hj => by
    have hlt : j < us.length := (List.getElem?_eq_some_iff.1 hj).1
    obtain ⟨u', h1', h2', _⟩ := hus j _ (List.getElem?_eq_getElem (show j < cs.length by omega))
    rw [h1'] at hj
    injection hj with hj
    rw [← hj]; exact h2'
  unfold loadCs at hv
  split at hv
  · rename_i hagg
    split at hv
    · rename_i hlen
      injection hv with hv
      subst hv
      have hr := run_loadVar (w := w) h1 h2 us hu (fun _ => by rw [hl, hlen, h3]) (fun h => by rw [h9, hagg] at h; cases h)
      rw [h9, hagg] at hr
      refine ⟨_, hr, us.toArray, rfl, by simp [hl], fun j c hj => ?_⟩
      obtain ⟨u, h1', _, h3'⟩ := hus j c hj
      exact ⟨u, by simpa using h1', h3'⟩
    · cases hv
  · rename_i hagg
    split at hv
    · rename_i c
      injection hv with hv
      subst hv
      obtain ⟨u, h1', _, h3'⟩ := hus 0 c rfl
      obtain rfl : us = [u] := by
        match us, hl, h1' with
        | [x], _, h => simp at h; rw [h]
      have hr := run_loadVar (w := w) h1 h2 [u] hu (fun h => by rw [h9] at h; exact absurd h hagg) (fun _ => ⟨u, rfl⟩)
      rw [h9, if_neg hagg] at hr
      exact ⟨u, hr, h3'⟩
    · cases hv
theorem sim_load (hP : TVOk P tv) (hd : ∀ d, dst = some d → d < n) (R : Rel E n s a w) (t : TypeId) (p : Operand) (h : act tv s id8 (.load t p) = some st) (hvc : st.vc) : Sim P E n s a w ⟨dst, .load t p, ty, pos, aft, g⟩ st := by
  obtain ⟨pl, hH, hdf, hn, henv⟩ := R
  have hp := ev_c henv p
  simp only [act] at h
  have key : ∀ {ad : Addr} {v : V} {tt : Ty} {cs : List C}, tv t = some tt → a.eval p = .pointer (some ad) → (∀ (j : Nat) c, cs[j]? = some c → ∃ u, w.cell? (ad.add j) = some u ∧ CR E.b s.heap pl w c u) → loadCs tt cs = some v →
      ∀ {rd vc}, Sim P E n s a w ⟨dst, .load t p, ty, pos, aft, g⟩ ⟨vc, .v v, [], rd⟩ := by
    intro ad v tt cs ht hpv hcs hv rd vc
    obtain ⟨u, hu, hr⟩ := load_sim hP ht hcs hv
    exact sim_val (v := u) hH hdf hn henv hd rfl rfl (by simp [execOp, Instr.loadAt, Instr.sureAddr, hpv, hu]) hr
  unfold actLoad at h
  split at h
  · cases h
  · rename_i tt ht
    split at h
    · rename_i id ver j o hpc
      rw [hpc] at hp
      obtain ⟨_, hp⟩ := hp
      unfold ptrR at hp
      split at h
      · rename_i ver' cs hg
        rw [hg] at hp
        split at h
        · rename_i hver
          simp only [Option.map_eq_some_iff] at h
          obtain ⟨v, hv, rfl⟩ := h
          obtain ⟨_, b, hb, hpv⟩ := hp.2 hver
          obtain ⟨b', vs, T, k1, k2, k3, k4⟩ := hH.objs id _ hg
          rw [hb] at k1
          injection k1 with k1
          subst k1
          refine key ht hpv (fun k c hk => ?_) hv
          rw [List.getElem?_take] at hk
          split at hk
          · rw [List.getElem?_drop] at hk
            obtain ⟨u, hu, hr⟩ := k4 _ c hk
            exact ⟨u, by rw [add_off, cell_of k2]; exact hu, hr⟩
          · cases hk
        · cases h
      · rename_i ver' fr d hg
        rw [hg] at hp
        split at h
        · rename_i hver
          simp only [Option.map_eq_some_iff] at h
          obtain ⟨v, hv, rfl⟩ := h
          obtain ⟨b, hb, hpv⟩ := hp.2 hver
          obtain ⟨es, xs, g1, g2, g3, g4, g5⟩ := hH.objs id _ hg
          obtain ⟨vs, T, k1, k2, k3, k4⟩ := g5 b hb
          have hj : j < xs.length := by have : j < d.len := hvc; rw [elems_len g1] at this; exact this
          have hat := elems_at g1 hj
          refine key ht hpv (fun k c hk => ?_) hv
          rw [List.getElem?_map, List.getElem?_take] at hk
          split at hk
          · rw [List.getElem?_drop] at hk
            cases he : (d.at_ j)[o + k]? with
            | none => rw [he] at hk; cases hk
            | some e =>
              rw [he] at hk
              simp only [Option.map_some, Option.some.injEq] at hk
              subst hk
              obtain ⟨u, hu, hr⟩ := k4 j (o + k) e (by rw [hat]; exact he)
              refine ⟨u, ?_, cr_ofD hr⟩
              rw [add_off, cell_of k1, elems_es g1, Nat.add_assoc]
              exact hu
          · cases hk
        · cases h
      · cases h
    · rename_i fr ds hpc
      rw [hpc] at hp
      obtain ⟨q, hpv, hds⟩ := hp
      simp only [Option.map_eq_some_iff] at h
      obtain ⟨v, hv, rfl⟩ := h
      refine key ht hpv (fun k c hk => ?_) hv
      rw [List.getElem?_map, List.getElem?_take] at hk
      split at hk
      · cases he : ds[k]? with
        | none => rw [he] at hk; cases hk
        | some e =>
          rw [he] at hk
          simp only [Option.map_some, Option.some.injEq] at hk
          subst hk
          obtain ⟨u, hu, _, hr⟩ := hds k e he
          exact ⟨u, hu, cr_ofD hr⟩
      · cases hk
    · cases h

/-! ### Stores -/
theorem setCs_get : ∀ (l cs : List C) (o j : Nat), (setCs cs o l)[j]? = if o ≤ j ∧ j < o + l.length ∧ j < cs.length then l[j - o]? else cs[j]?
  | [], cs, o, j => by
    simp only [setCs, List.length_nil]
    rw [if_neg (by omega)]
  | c :: r, cs, o, j => by
    simp only [setCs]
    rw [setCs_get r (cs.set o c) (o + 1) j]
    simp only [List.length_set, List.length_cons, List.getElem?_set]
    by_cases h1 : o + 1 ≤ j ∧ j < o + 1 + r.length ∧ j < cs.length
    · rw [if_pos h1, if_pos (by omega)]
      rw [show j - o = (j - (o + 1)) + 1 by omega]
      simp
    · rw [if_neg h1]
      by_cases h2 : o = j
      · subst h2
        by_cases h3 : o < cs.length
        · rw [if_pos rfl, if_pos h3, if_pos (by omega)]; simp
        · rw [if_pos rfl, if_neg h3, if_neg (by omega)]
          simp [List.getElem?_eq_none (Nat.le_of_not_lt h3)]
      · rw [if_neg h2, if_neg (by omega)]
theorem setCs_length : ∀ (l cs : List C) (o : Nat), (setCs cs o l).length = cs.length
  | [], cs, o => rfl
  | c :: r, cs, o => by simp [setCs, setCs_length r]
theorem run_store_at {t : TypeId} {i : TypeInfo} (h1 : P.info? t = some i) {b k : Nat} {v : Value} {cur : Array Value} {T : TypeId} (hg : w.heap[b]? = some (.cells cur T (0, 0))) (hs : v.cells.size = i.size)
    (hl : k + v.cells.size ≤ cur.size) (hone : ∀ u ∈ v.cells.toList, u.oneCell' = true) :
    (storeVar t ⟨b, k, none⟩ v).run P w = .ok () (w.setRow b (cur.toList.take k ++ v.cells.toList ++ cur.toList.drop (k + v.cells.size)).toArray) := by
  have := run_storeCells_at P b k T v.cells.toList 0 cur w hg (by simpa using hl) hone
  unfold storeVar
  simp only [sizeOf, typeInfo]
  simp [h1, hs]
  simp only [Nat.add_zero] at this
  rw [this]
  simp [hs]
theorem row_get {α : Type} (l m : List α) (k j : Nat) (h : k + m.length ≤ l.length) : (l.take k ++ m ++ l.drop (k + m.length))[j]? = if k ≤ j ∧ j < k + m.length then m[j - k]? else l[j]? := by
  by_cases h1 : j < k
  · rw [if_neg (by omega), List.append_assoc, List.getElem?_append_left (by simp; omega), List.getElem?_take, if_pos h1]
  · by_cases h2 : j < k + m.length
    · rw [if_pos (by omega), List.getElem?_append_left (by simp; omega), List.getElem?_append_right (by simp; omega)]
      congr 1
      simp
      omega
    · rw [if_neg (by omega), List.getElem?_append_right (by simp; omega), List.getElem?_drop]
      congr 1
      simp
      omega
/-- An object whose cells are written. -/
theorem evo_set {B : Bs} {H : Heap} {pl : Pl} {w w' : World} {id : Nat} {o o' : Obj} (hg : getA id H = some o) (hl : o'.live = o.live) (hto : o.to pl pl id o')
    (hz : ∀ k, k < w.heap.size → (∀ i x, getA i H = some x → x.live = true → pl.blk i ≠ some k) → w'.heap[k]? = w.heap[k]?) : Evo B H pl w (setA id o' H) pl w' := by
  refine ⟨fun i x hi => ?_, fun fr k hk hzz => ?_, fun k hk h => hz k hk h⟩
  · rw [getA_setA]
    by_cases h : id = i
    · subst h
      rw [hg] at hi
      injection hi with hi
      subst hi
      exact ⟨o', by rw [if_pos rfl], hto⟩
    · exact ⟨x, by rw [if_neg h]; exact hi, x.to_refl pl i⟩
  · rintro (⟨i, x, h1, h2, h3⟩ | h)
    · rw [getA_setA] at h1
      by_cases h : id = i
      · subst h
        rw [if_pos rfl] at h1
        injection h1 with h1
        subst h1
        exact hzz (.inl ⟨id, o, hg, by rw [← hl]; exact h2, h3⟩)
      · rw [if_neg h] at h1
        exact hzz (.inl ⟨i, x, h1, h2, h3⟩)
    · exact hzz (.inr h)
theorem HR.set {E : Ent} {H : Heap} {pl : Pl} {w w' : World} (h : HR E H pl w) {id : Nat} {o o' : Obj} (hg : getA id H = some o) (hl : o.live = true) (hl' : o'.live = true) (hver : o.ver ≤ o'.ver) (hto : o.to pl pl id o')
    (hw : w'.os = w.os ∧ w'.tape = w.tape ∧ w'.output = w.output ∧ w'.heap.size = w.heap.size) (hh : ∀ k, pl.blk id ≠ some k → w'.heap[k]? = w.heap[k]?)
    (ho : Evo E.b H pl w (setA id o' H) pl w' → ObjR E.b (setA id o' H) pl w' id o') :
    HR E (setA id o' H) pl w' ∧ Evo E.b H pl w (setA id o' H) pl w' := by
  have hev : Evo E.b H pl w (setA id o' H) pl w' := evo_set hg (hl'.trans hl.symm) hto fun k _ hz => hh k (hz id o hg hl)
  refine ⟨h.step ⟨hw.1, hw.2.1, hw.2.2.1, by rw [hw.2.2.2]; exact Nat.le_refl _⟩ hev (· = id) (fun i hi => ⟨?_, rfl, rfl⟩) (fun i x k hi h1 h2 h3 => hh k fun e => hi (h.inj i id x o k h1 h2 hg hl h3 e)) ?_ (fun i i' _ _ _ h1 h2 _ _ _ _ _ _ => h1.trans h2.symm), hev⟩
  · rw [getA_setA, if_neg (fun e => hi e.symm)]
  · rintro i x rfl h1
    rw [getA_setA, if_pos rfl] at h1
    injection h1 with h1
    subst h1
    refine ⟨ho hev, fun oi hoi => ?_, fun k _ hk => ?_⟩
    · exact Obj.to_trans (h.lent i o oi hg hoi) hto
    · have := (h.blk i o k hg hl hk).1
      exact ⟨by rw [hw.2.2.2]; exact this, .inr ⟨o, hg, hl, hk⟩⟩
theorem sim_store (hP : TVOk P tv) (hd : ∀ d, dst = some d → d < n) (R : Rel E n s a w) (t : TypeId) (p x : Operand) (h : act tv s id8 (.store t p x) = some st) (hvc : st.vc) : Sim P E n s a w ⟨dst, .store t p x, ty, pos, aft, g⟩ st := by
  obtain ⟨pl, hH, hdf, hn, henv⟩ := R
  have hp := ev_c henv p
  have hx := ev_v henv x
  simp only [act] at h
  unfold actStore at h
  split at h
  · cases h
  · rename_i tt ht
    obtain ⟨i, d, z, h1, h2, h3, h4, h5, h6, h7, h8, h9⟩ := ofTV hP ht
    split at h
    · rename_i id ver j o hpc
      rw [hpc] at hp
      obtain ⟨_, hp⟩ := hp
      unfold ptrR at hp
      split at h
      · rename_i ver' cs hg
        rw [hg] at hp
        split at h
        · rename_i hcond
          obtain ⟨hver, hlen, hfit, hnb⟩ := hcond
          injection h with h
          subst h
          obtain ⟨_, b, hb, hpv⟩ := hp.2 hver
          obtain ⟨b', vs, T, k1, k2, k3, k4⟩ := hH.objs id _ hg
          rw [hb] at k1
          injection k1 with k1
          subst k1
          have hok : okV (s.evV x) = true := by
            cases hv : s.evV x with
            | c c => rw [hv] at hnb; simpa [V.cells, okV] using hnb
            | agg xs => rfl
          have hc := vr_cells hx hok
          have hone : ∀ u ∈ (a.eval x).cells.toList, u.oneCell' = true := fun u hu => by
            obtain ⟨k, hk⟩ := List.getElem?_of_mem hu
            have hlt : k < (s.evV x).cells.length := by
              have := (List.getElem?_eq_some_iff.1 hk).1
              simp only [Array.length_toList] at this
              omega
            obtain ⟨u', hu', hr⟩ := hc.2 k _ (List.getElem?_eq_getElem hlt)
            have : u = u' := by simpa [hu'] using hk.symm
            rw [this]
            exact (cr_one hr (by exact List.all_eq_true.1 hnb _ (List.getElem_mem hlt))).1
          have hr := run_store_at (P := P) (w := w) (t := t) h1 k2 (k := o) (v := a.eval x) (by rw [hc.1, h3, hlen]) (by rw [hc.1, k3, hlen]; exact hfit) hone
          have hS := HR.set hH (id := id) (o' := .box ver' (setCs cs o (s.evV x).cells)) (w' := w.setRow b (vs.toList.take o ++ (a.eval x).cells.toList ++ vs.toList.drop (o + (a.eval x).cells.size)).toArray) hg rfl rfl (Nat.le_refl _) (.inr ⟨rfl, rfl⟩) ⟨rfl, rfl, rfl, by simp⟩ (fun k hk => setRow_other w b k _ (fun e => hk (e ▸ hb)))
            (fun hev => ⟨b, _, T, hb, setRow_heap w b vs _ T (0, 0) k2, by
              rw [setCs_length]
              simp only [List.size_toArray, List.length_append, List.length_take, List.length_drop, Array.length_toList]
              have := hc.1
              omega, fun k c hk => by
              have hlen2 : (a.eval x).cells.toList.length = (s.evV x).cells.length := by simpa using hc.1
              rw [setCs_get] at hk
              simp only [List.getElem?_toArray]
              rw [show o + (a.eval x).cells.size = o + (a.eval x).cells.toList.length by simp, row_get _ _ _ _ (by simp; omega)]
              by_cases hin : o ≤ k ∧ k < o + (s.evV x).cells.length ∧ k < cs.length
              · rw [if_pos hin] at hk
                rw [if_pos (by omega)]
                obtain ⟨u, hu, hr⟩ := hc.2 _ c hk
                exact ⟨u, by simpa using hu, hev.cr hr⟩
              · rw [if_neg hin] at hk
                have hkl : k < cs.length := (List.getElem?_eq_some_iff.1 hk).1
                rw [if_neg (by omega)]
                obtain ⟨u, hu, hr⟩ := k4 k c hk
                exact ⟨u, by simpa using hu, hev.cr hr⟩⟩)
          refine sim_skip hdf hn henv hd rfl ?_ hS.1 hS.2 rfl
          simp [execOp, Instr.storeAt, Instr.sureAddr, hpv, hr]
        · cases h
      · rename_i ver' fr dd hg
        rw [hg] at hp
        split at h
        · rename_i hcond
          obtain ⟨hver, hsz⟩ := hcond
          unfold storeArr at h
          split at h
          · rename_i c hcells
            split at h
            · rename_i e he
              simp only [Option.map_eq_some_iff] at h
              obtain ⟨d', hd', rfl⟩ := h
              obtain ⟨hvj, hvo⟩ := hvc
              obtain ⟨b, hb, hpv⟩ := hp.2 hver
              obtain ⟨es, xs, g1, g2, g3, g4, g5⟩ := hH.objs id _ hg
              obtain ⟨vs, T, k1, k2, k3, k4⟩ := g5 b hb
              have hnb : noBad c = true := by cases c <;> simp [scalD] at he <;> rfl
              have hok : okV (s.evV x) = true := by
                cases hv : s.evV x with
                | c c' => rw [hv] at hcells; simp [V.cells] at hcells; subst hcells; exact hnb
                | agg xs => rfl
              have hc := vr_cells hx hok
              rw [hcells] at hc
              obtain ⟨u, hu, hcu⟩ := hc.2 0 c rfl
              have hcs : (a.eval x).cells = #[u] := by
                apply Array.ext'
                have hl : (a.eval x).cells.toList.length = 1 := by simpa using hc.1
                match hq : (a.eval x).cells.toList, hl with
                | [y], _ =>
                  have : (a.eval x).cells[0]? = some y := by rw [← Array.getElem?_toList, hq]; rfl
                  rw [this] at hu
                  injection hu with hu
                  rw [hu]
              have hj : j < xs.length := by rw [← elems_len g1]; exact hvj
              have hat := elems_at g1 hj
              have hatl : (dd.at_ j).length = es := g3 _ (List.mem_of_getElem? hat)
              have hcapj : j < pl.cap id := by omega
              have hoff : j * es + o < vs.size := by
                rw [k2]
                calc j * es + o < j * es + es := by omega
                  _ = (j + 1) * es := by rw [Nat.add_mul]; omega
                  _ ≤ pl.cap id * es := Nat.mul_le_mul_right _ hcapj
              have hes : dd.es = es := elems_es g1
              have hr := run_store_at (P := P) (w := w) (t := t) h1 k1 (k := j * dd.es + o) (v := a.eval x) (by rw [hcs, h3, hsz]; rfl) (by rw [hcs, hes]; simp; omega) (fun y hy => by rw [hcs] at hy; simp at hy; subst hy; exact (cr_one hcu hnb).1)
              rw [hcs, hes] at hr
              have hnew := elems_set g1 hj hvo hd'
              have hS := HR.set hH (id := id) (o' := .arr ver' fr d') (w' := w.setRow b (vs.toList.take (j * es + o) ++ [u] ++ vs.toList.drop (j * es + o + 1)).toArray) hg rfl rfl (Nat.le_refl _)
                (.inr ⟨rfl, rfl, rfl, by rw [elems_es hnew, hes], by rw [elems_len hnew, elems_len g1]; simp⟩) ⟨rfl, rfl, rfl, by simp⟩ (fun k hk => setRow_other w b k _ (fun e => hk (e ▸ hb)))
                (fun hev => ⟨es, _, hnew, g2, fun y hy => by
                  rcases List.mem_or_eq_of_mem_set hy with hy | rfl
                  · exact g3 y hy
                  · rw [List.length_set]; exact hatl, (fun hnone => absurd hnone (by rw [hb]; simp)), fun b' hb' => by
                  rw [hb] at hb'
                  injection hb' with hb'
                  subst hb'
                  refine ⟨_, T, setRow_heap w b vs _ T (0, 0) k1, ?_, by simpa using k3, fun j' o' e' he' => ?_⟩
                  · rw [← k2]
                    simp only [List.size_toArray, List.length_append, List.length_take, List.length_drop, Array.length_toList, List.length_cons, List.length_nil]
                    omega
                  · simp only [List.getElem?_toArray]
                    have := row_get vs.toList [u] (j * es + o) (j' * es + o') (by simp; omega)
                    simp only [List.length_cons, List.length_nil, Nat.zero_add] at this
                    rw [this]
                    rw [List.getElem?_set] at he'
                    by_cases hjj : j = j'
                    · subst hjj
                      rw [if_pos rfl, if_pos hj] at he'
                      simp only [Option.bind_some, List.getElem?_set] at he'
                      by_cases hoo : o = o'
                      · subst hoo
                        rw [if_pos rfl, if_pos hvo] at he'
                        injection he' with he'
                        subst he'
                        rw [if_pos (by omega)]
                        exact ⟨u, by simp, (cr_scal he hcu _ _).1⟩
                      · rw [if_neg hoo] at he'
                        rw [if_neg (by omega)]
                        obtain ⟨u', hu', hr'⟩ := k4 j o' e' (by rw [hat]; exact he')
                        exact ⟨u', by simpa using hu', hev.reads hr'⟩
                    · rw [if_neg hjj] at he'
                      have ho' : o' < es := by
                        cases hxj : xs[j']? with
                        | none => rw [hxj] at he'; cases he'
                        | some y =>
                          rw [hxj] at he'
                          have := g3 y (List.mem_of_getElem? hxj)
                          have := (List.getElem?_eq_some_iff.1 he').1
                          omega
                      have hne : ¬ (j * es + o ≤ j' * es + o' ∧ j' * es + o' < j * es + o + 1) := by
                        intro ⟨q1, q2⟩
                        have q : j' * es + o' = j * es + o := by omega
                        have hoes : o < es := by omega
                        have : j' = j := by
                          have e1 : (j' * es + o') / es = j' := by rw [Nat.mul_comm, Nat.mul_add_div g2, Nat.div_eq_of_lt ho']; omega
                          have e2 : (j * es + o) / es = j := by rw [Nat.mul_comm, Nat.mul_add_div g2, Nat.div_eq_of_lt hoes]; omega
                          rw [← e1, ← e2, q]
                        exact hjj this.symm
                      rw [if_neg hne]
                      obtain ⟨u', hu', hr'⟩ := k4 j' o' e' he'
                      exact ⟨u', by simpa using hu', hev.reads hr'⟩⟩)
              refine sim_skip hdf hn henv hd rfl ?_ hS.1 hS.2 rfl
              rw [hes] at hpv
              have hr2 : (storeVar t ⟨b, j * es + o, none⟩ (a.eval x)).run P w = .ok () (w.setRow b (vs.toList.take (j * es + o) ++ [u] ++ vs.toList.drop (j * es + o + 1)).toArray) := by simpa using hr
              simp [execOp, Instr.storeAt, Instr.sureAddr, hpv, hr2]
            · cases h
          · cases h
        · cases h
      · cases h
    · cases h
end
end Go.AM
