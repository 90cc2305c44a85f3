/- The abstract machine's operations are the model's: structs and rows that are made. -/
import Derived.Test.YtaicenafkjbnoaaAmJ
set_option linter.unusedVariables false
set_option linter.unusedSimpArgs false
set_option linter.unusedSectionVars false
namespace Go.AM

theorem foldl_set (off : Nat) : ∀ (l : List Value) (m : Nat) (cells : Array Value), let r := (l.zipIdx m).foldl (fun (cs : Array Value) (p : Value × Nat) => cs.setIfInBounds (off + p.2) p.1) cells
    r.size = cells.size ∧ ∀ k : Nat, r[k]? = if off + m ≤ k ∧ k < off + m + l.length ∧ k < cells.size then l[k - (off + m)]? else cells[k]?
  | [], m, cells => by
    simp only [List.zipIdx_nil, List.foldl_nil, List.length_nil, true_and]
    intro k
    rw [if_neg (by omega)]
  | v :: l, m, cells => by
    have ih := foldl_set off l (m + 1) (cells.setIfInBounds (off + m) v)
    simp only [List.zipIdx_cons, List.foldl_cons, Array.size_setIfInBounds] at ih ⊢
    refine ⟨ih.1, fun k => ?_⟩
    rw [ih.2 k]
    simp only [List.length_cons]
    by_cases h1 : off + (m + 1) ≤ k ∧ k < off + (m + 1) + l.length ∧ k < cells.size
    · rw [if_pos h1, if_pos (by omega), show k - (off + m) = (k - (off + (m + 1))) + 1 by omega]
      simp
    · rw [if_neg h1, Array.getElem?_setIfInBounds]
      by_cases h2 : off + m = k
      · subst h2
        by_cases h3 : off + m < cells.size
        · rw [if_pos rfl, if_pos h3, if_pos (by omega)]; simp
        · rw [if_pos rfl, if_neg h3, if_neg (by omega)]
          simp [Array.getElem?_eq_none (Nat.le_of_not_lt h3)]
      · rw [if_neg h2, if_neg (by omega)]
theorem fill_cons (place : Nat → Option (Nat × Nat)) (cells : Array Value) (i off size : Nat) (v : Value) (rest : List (Nat × Value)) (hp : place i = some (off, size)) (hs : v.cells.size = size) (hf : off + size ≤ cells.size) :
    ∃ cells' : Array Value, Instr.fill place cells ((i, v) :: rest) = Instr.fill place cells' rest ∧ cells'.size = cells.size ∧ ∀ k : Nat, cells'[k]? = if off ≤ k ∧ k < off + size then v.cells[k - off]? else cells[k]? := by
  have h := foldl_set off v.cells.toList 0 cells
  refine ⟨(v.cells.toList.zipIdx 0).foldl (fun (cs : Array Value) (p : Value × Nat) => cs.setIfInBounds (off + p.2) p.1) cells, ?_, h.1, fun k => ?_⟩
  · simp only [Instr.fill, hp, hs]
    rw [if_neg (by simp; omega)]
    congr 1
    rw [← Array.foldl_toList]
    simp [Array.toList_zipIdx]
  · rw [h.2 k]
    simp only [Nat.add_zero, Array.length_toList, hs, Array.getElem?_toList]
    by_cases h1 : off ≤ k ∧ k < off + size
    · rw [if_pos (by omega), if_pos h1]
    · rw [if_neg (by omega), if_neg h1]

section
variable {P : Program} {tv : TV} {E : Ent} {n : Nat} {s : St} {a : Act} {w : World} {dst : Option Tmp} {ty : TypeId} {pos : String} {aft : Array Edge} {g : Option (Nat × Bool)} {st : Step} {id8 : Nat}

/-! ### A struct's literal -/
theorem fill_struct {pl : Pl} (henv : ∀ t lv, getA t s.env = some lv → LVR E.b s.heap pl w lv (a.tmps.getD t undef)) {t : TypeId} {place : Nat → Option (Nat × Nat)} (hplace : ∀ i off fy, fieldsOf tv t i = some (off, fy) → place i = some (off, fy.size)) :
    ∀ (l : List (Nat × Operand)) (cs cs' : List C) (cur : Array Value), fillCs tv t cs (l.map fun p => (p.1, s.evV p.2)) = some cs' → cur.size = cs.length →
      (∀ (i : Nat) c, cs[i]? = some c → ∃ u, cur[i]? = some u ∧ CR E.b s.heap pl w c u) →
      ∃ cur', Instr.fill place cur (l.map fun p => (p.1, a.eval p.2)) = some cur' ∧ cur'.size = cs'.length ∧ ∀ (i : Nat) c, cs'[i]? = some c → ∃ u, cur'[i]? = some u ∧ CR E.b s.heap pl w c u
  | [], cs, cs', cur, h, hs, hc => by
    simp only [List.map_nil, fillCs, Option.some.injEq] at h
    subst h
    exact ⟨cur, rfl, hs, hc⟩
  | (i, x) :: l, cs, cs', cur, h, hs, hc => by
    simp only [List.map_cons, fillCs] at h
    split at h
    · rename_i off fy hf
      split at h
      · rename_i hcond
        obtain ⟨hok, hlen, hfit⟩ := hcond
        have hx := vr_cells (ev_v henv x) hok
        obtain ⟨cur1, h1, h2, h3⟩ := fill_cons place cur i off fy.size (a.eval x) (l.map fun p => (p.1, a.eval p.2)) (hplace i off fy hf) (by rw [hx.1, hlen]) (by omega)
        obtain ⟨cur', g1, g2, g3⟩ := fill_struct henv hplace l (setCs cs off (s.evV x).cells) cs' cur1 h (by rw [h2, setCs_length, hs]) (fun k c hk => by
          rw [setCs_get] at hk
          rw [h3 k]
          by_cases hin : off ≤ k ∧ k < off + (s.evV x).cells.length ∧ k < cs.length
          · rw [if_pos hin] at hk
            rw [if_pos (by omega)]
            exact hx.2 _ c hk
          · rw [if_neg hin] at hk
            have := (List.getElem?_eq_some_iff.1 hk).1
            rw [if_neg (by omega)]
            exact hc k c hk)
        exact ⟨cur', by rw [List.map_cons, h1]; exact g1, g2, g3⟩
      · cases h
    · cases h
theorem mapM_places : ∀ (l : List Field), (∀ f ∈ l, (P.info? f.type).isSome = true) → ∃ places, l.mapM (fun f => (P.info? f.type).map fun i => (f.offset, i.size)) = some places ∧
    ∀ (k : Nat) f i, l[k]? = some f → P.info? f.type = some i → places[k]? = some (f.offset, i.size)
  | [], _ => ⟨[], rfl, fun k f i h => by simp at h⟩
  | f :: l, h => by
    obtain ⟨i, hi⟩ := Option.isSome_iff_exists.1 (h f (by simp))
    obtain ⟨ps, h1, h2⟩ := mapM_places l (fun x hx => h x (by simp [hx]))
    refine ⟨(f.offset, i.size) :: ps, by simp [List.mapM_cons, hi, h1], fun k f' i' hk hi' => ?_⟩
    cases k with
    | zero =>
      simp only [List.getElem?_cons_zero, Option.some.injEq] at hk
      subst hk
      rw [hi] at hi'
      injection hi' with hi'
      subst hi'
      rfl
    | succ k => simpa using h2 k f' i' (by simpa using hk) hi'
theorem sim_build (hP : TVOk P tv) (hd : ∀ d, dst = some d → d < n) (R : Rel E n s a w) (t : TypeId) (parts : Array (Nat × Operand)) (h : act tv s id8 (.build t parts) = some st) : Sim P E n s a w ⟨dst, .build t parts, ty, pos, aft, g⟩ st := by
  obtain ⟨pl, hH, hdf, hn, henv⟩ := R
  simp only [act] at h
  unfold actBuild at h
  split at h
  · rename_i fs sz by_ zr ht
    simp only [Option.map_eq_some_iff] at h
    obtain ⟨cs', hcs, rfl⟩ := h
    obtain ⟨i1, dd1, z1, g1, g2, g3, g4, g5, g6, g7, g8, g9⟩ := ofTV hP ht
    have hz : ∀ (i : Nat) c, zr[i]? = some c → ∃ u, z1.cells[i]? = some u ∧ CR E.b s.heap pl w c u := fun i c hi => let ⟨v, hv, hzc⟩ := g7 i c hi; ⟨v, hv, zc_cr hzc⟩
    obtain ⟨flds, rfl, hlen, hfl⟩ := g8
    obtain ⟨places, hm, hpl⟩ := mapM_places (P := P) flds.toList (fun f hf => by
      obtain ⟨k, hk'⟩ := List.getElem?_of_mem hf
      have hlt := (List.getElem?_eq_some_iff.1 hk').1
      simp only [Array.length_toList] at hlt
      have hkk : k < fs.length := by omega
      obtain ⟨f', q1, q2, q3, q4⟩ := hfl k (fs[k]'hkk).1 (fs[k]'hkk).2 (by simp [List.getElem?_eq_getElem hkk])
      have : f' = f := by
        have e : flds[k]? = some f := by simpa using hk'
        rw [q1] at e
        injection e
      subst this
      rw [q3]
      exact q4)
    obtain ⟨cur', h1, h2, h3⟩ := fill_struct (place := fun x => places.toArray[x]?) henv (fun i off fy hf => by
      obtain ⟨flds', fl, i', d', r1, r2, r3, r4, r5, r6, r7⟩ := fieldsOf_out hP hf
      rw [g2] at r1
      injection r1 with r1
      injection r1 with r1
      subst r1
      have := hpl i fl i' (by simpa using r2) r4
      rw [← r3, ← r5]
      simpa using this) parts.toList zr cs' z1.cells hcs g6 hz
    refine sim_val (v := .agg cur') hH hdf hn henv hd rfl rfl ?_ ⟨cur', rfl, h2, h3⟩
    have hb : P.built t (parts.map fun (i, x) => (i, a.eval x)).toList = some cur' := by
      unfold Program.built
      simp only [g1, g2, g5, hm]
      rw [← h1]
      congr 1
      simp
    have := run_build w t _ cur' hb
    simp [execOp, this]
  · cases h

/-! ### A row's literal -/
theorem allInts_eq {k : IntKind} : ∀ {xs : List (List D)} {l : List Int}, allInts k xs = some l → xs = l.map fun x => [D.int k x]
  | [], l, h => by simp [allInts] at h; subst h; rfl
  | x :: r, l, h => by
    unfold allInts at h
    split at h
    · rename_i heq; cases heq
    · rename_i k' y r' heq
      injection heq with e1 e2
      subst e1; subst e2
      split at h
      · rename_i hk
        subst hk
        simp only [Option.map_eq_some_iff] at h
        obtain ⟨m, hm, rfl⟩ := h
        rw [allInts_eq hm]
        rfl
      · cases h
    · cases h
theorem allBools_eq : ∀ {xs : List (List D)} {l : List Bool}, allBools xs = some l → xs = l.map fun x => [D.bool x]
  | [], l, h => by simp [allBools] at h; subst h; rfl
  | x :: r, l, h => by
    unfold allBools at h
    split at h
    · rename_i heq; cases heq
    · rename_i y r' heq
      injection heq with e1 e2
      subst e1; subst e2
      simp only [Option.map_eq_some_iff] at h
      obtain ⟨m, hm, rfl⟩ := h
      rw [allBools_eq hm]
      rfl
    · cases h
theorem mkRow_elems {te : Ty} {xs : List (List D)} {d : D} (h : mkRow te xs = some d) : d.elems = some (te.size, xs) ∧ 0 < te.size := by
  unfold mkRow at h
  split at h
  · cases h
  · rename_i h0
    refine ⟨?_, by omega⟩
    split at h
    · split at h
      · rename_i hs
        simp only [Option.map_eq_some_iff] at h
        obtain ⟨l, hl, rfl⟩ := h
        rw [allInts_eq hl, hs]
        rfl
      · cases h
    · split at h
      · rename_i hs
        simp only [Option.map_eq_some_iff] at h
        obtain ⟨l, hl, rfl⟩ := h
        rw [allBools_eq hl, hs]
        rfl
      · cases h
    · injection h with h
      subst h
      rfl
theorem fill_rows {pl : Pl} (hH : HR E s.heap pl w) (henv : ∀ t lv, getA t s.env = some lv → LVR E.b s.heap pl w lv (a.tmps.getD t undef)) {size : Nat} {H' : Heap} {ks' : List Nat} (hk : Killed s.heap H' ks') :
    ∀ (l : List (Nat × Operand)) (m : Nat) (cur : Array Value) (xs : List (List D)) (fr : Bool) (ks : List Nat), litRows s.heap size m (l.map fun p => (p.1, s.evV p.2)) = some (xs, fr, ks) → (m + l.length) * size ≤ cur.size → (∀ k, k ∈ ks → k ∈ ks') →
      ∃ cur', Instr.fill (fun i => some (i * size, size)) cur (l.map fun p => (p.1, a.eval p.2)) = some cur' ∧ cur'.size = cur.size ∧ (∀ k, k < m * size → cur'[k]? = cur[k]?) ∧ xs.length = l.length ∧ (∀ x ∈ xs, x.length = size) ∧
        ∀ (j o : Nat) e, (xs[j]?.bind (·[o]?)) = some e → ∃ u, cur'[(m + j) * size + o]? = some u ∧ Reads (zone E.b H' pl fr) w u e
  | [], m, cur, xs, fr, ks, h, hs, hsub => by
    simp only [List.map_nil, litRows, Option.some.injEq, Prod.mk.injEq] at h
    obtain ⟨rfl, rfl, rfl⟩ := h
    exact ⟨cur, rfl, rfl, fun _ _ => rfl, rfl, by simp, fun j o e h => by simp at h⟩
  | (i, x) :: l, m, cur, xs, fr, ks, h, hs, hsub => by
    simp only [List.map_cons, litRows] at h
    split at h
    · rename_i hcond
      obtain ⟨rfl, hlen, hok⟩ := hcond
      split at h
      · rename_i ds f k xs' f' k' h1 h2
        simp only [Option.some.injEq, Prod.mk.injEq] at h
        obtain ⟨rfl, rfl, rfl⟩ := h
        have hx := vr_cells (ev_v henv x) hok
        have hfit : i * size + size ≤ cur.size := by
          have : (i + 1) * size ≤ cur.size := Nat.le_trans (Nat.mul_le_mul_right _ (by simp)) hs
          rw [Nat.add_mul] at this
          omega
        obtain ⟨cur1, q1, q2, q3⟩ := fill_cons (fun i => some (i * size, size)) cur i (i * size) size (a.eval x) (l.map fun p => (p.1, a.eval p.2)) rfl (by rw [hx.1, hlen]) hfit
        obtain ⟨cur', r1, r2, r3, r4, r5, r6⟩ := fill_rows hH henv hk l (i + 1) cur1 xs' f' k' h2 (by rw [q2]; refine Nat.le_trans (Nat.mul_le_mul_right _ ?_) hs; simp; omega) (fun y hy => hsub y (by simp [hy]))
        have hfz := frzDs_reads hH hk h1 (fun y hy => hsub y (by simp [hy]))
        refine ⟨cur', by rw [List.map_cons, q1]; exact r1, r2.trans q2, fun y hy => ?_, by simp [r4], fun y hy => ?_, fun j o e hje => ?_⟩
        · rw [r3 y (by rw [Nat.add_mul]; omega), q3 y, if_neg (by omega)]
        · rcases List.mem_cons.1 hy with rfl | hy
          · rw [hfz.1, hlen]
          · exact r5 y hy
        · cases j with
          | zero =>
            simp only [List.getElem?_cons_zero, Option.bind_some] at hje
            obtain ⟨c, hc, hr⟩ := hfz.2 o e hje
            obtain ⟨u, hu, hcu⟩ := hx.2 o c hc
            have ho : o < size := by rw [← hlen]; exact (List.getElem?_eq_some_iff.1 hc).1
            refine ⟨u, ?_, (hr u hcu).mono fun b _ hz => ⟨zone_sub hz f', rfl⟩⟩
            rw [Nat.add_zero, r3 _ (by rw [Nat.add_mul]; omega), q3, if_pos (by omega)]
            rw [show i * size + o - i * size = o by omega]
            exact hu
          | succ j =>
            obtain ⟨u, hu, hr⟩ := r6 j o e (by simpa using hje)
            exact ⟨u, by rw [show i + (j + 1) = i + 1 + j by omega]; exact hu, hr.mono fun b _ hz => ⟨zone_sub' hz f, rfl⟩⟩
      · cases h
    · cases h
theorem litRows_ks : ∀ {H : Heap} {size : Nat} {l : List (Nat × V)} {m : Nat} {xs : List (List D)} {fr : Bool} {ks : List Nat}, litRows H size m l = some (xs, fr, ks) → ∀ k ∈ ks, k < 8000
  | H, size, [], m, xs, fr, ks, h => by simp [litRows] at h; obtain ⟨_, _, rfl⟩ := h; simp
  | H, size, (i, v) :: l, m, xs, fr, ks, h => by
    simp only [litRows] at h
    split at h
    · split at h
      · rename_i ds f k xs' f' k' h1 h2
        simp only [Option.some.injEq, Prod.mk.injEq] at h
        obtain ⟨rfl, rfl, rfl⟩ := h
        intro y hy
        rcases List.mem_append.1 hy with hy | hy
        · have : ∀ {cs : List C} {ds : List D} {f : Bool} {k : List Nat}, frzDs H cs = some (ds, f, k) → ∀ y ∈ k, y < 8000 := by
            intro cs
            induction cs with
            | nil => intro ds f k h y hy; simp [frzDs] at h; obtain ⟨_, _, rfl⟩ := h; simp at hy
            | cons c r ih =>
              intro ds f k h y hy
              simp only [frzDs] at h
              split at h
              · rename_i d f1 k1 ds1 f2 k2 e1 e2
                simp only [Option.some.injEq, Prod.mk.injEq] at h
                obtain ⟨rfl, rfl, rfl⟩ := h
                rcases List.mem_append.1 hy with hy | hy
                · cases c <;> simp only [frzD, Option.some.injEq, Prod.mk.injEq, reduceCtorEq] at e1
                  all_goals first
                    | (obtain ⟨_, _, rfl⟩ := e1; simp at hy)
                    | (split at e1
                       · split at e1
                         · rename_i hcond
                           simp only [Option.some.injEq, Prod.mk.injEq] at e1
                           obtain ⟨_, _, rfl⟩ := e1
                           simp at hy
                           subst hy
                           exact hcond.2
                         · cases e1
                       · cases e1)
                · exact ih e2 y hy
              · cases h
          exact this h1 y hy
        · exact litRows_ks h2 y hy
      · cases h
    · cases h
/-- A new row, behind objects that are given up. -/
theorem new_arr {pl : Pl} {w' : World} (hH : HR E s.heap pl w) (hid : id8 < 8000) {ks : List Nat} (hks : ∀ k ∈ ks, k < 8000) (hnd : nodupB (id8 :: ks) = true) {fr : Bool} {d : D} {vc : Prop} {rd : List Nat} {es cap : Nat} {xs : List (List D)} (he : d.elems = some (es, xs)) (hes : 0 < es) (hxs : ∀ x ∈ xs, x.length = es)
    {vs : Array Value} {T : TypeId} (hw : w'.os = w.os ∧ w'.tape = w.tape ∧ w'.output = w.output ∧ w'.heap = w.heap.push (.cells vs T)) (hsz : vs.size = cap * es) (hcap : xs.length ≤ cap)
    (hr : ∀ H', Killed s.heap H' ks → ∀ (j o : Nat) e, (xs[j]?.bind (·[o]?)) = some e → ∃ u, vs[j * es + o]? = some u ∧ Reads (zone E.b H' pl fr) w u e) :
    ∃ pl', HR E (updH (newArr s.heap id8 vc fr d (killL s.heap ks) rd).upd s.heap) pl' w' ∧ Evo E.b s.heap pl w (updH (newArr s.heap id8 vc fr d (killL s.heap ks) rd).upd s.heap) pl' w' ∧
      LVR E.b (updH (newArr s.heap id8 vc fr d (killL s.heap ks) rd).upd s.heap) pl' w' (newArr s.heap id8 vc fr d (killL s.heap ks) rd).val (.slice (some ⟨w.heap.size, 0, none⟩) d.len cap) := by
  simp only [nodupB, Bool.and_eq_true, Bool.not_eq_true', List.contains_eq_mem, decide_eq_false_iff_not] at hnd
  obtain ⟨k1, k2, k3⟩ := kill_all hH ks hks hnd.2 s.heap (fun _ _ => rfl)
  have hver : getA id8 (updH (killL s.heap ks) s.heap) = getA id8 s.heap := k3.out id8 hnd.1
  have hpush : ∀ k, k < w.heap.size → w'.heap[k]? = w.heap[k]? := fun k hk => by rw [hw.2.2.2]; exact push_old w _ k hk
  have hupd : updH (newArr s.heap id8 vc fr d (killL s.heap ks) rd).upd s.heap = setA id8 (.arr (verOf s.heap id8) fr d) (updH (killL s.heap ks) s.heap) := by
    simp [newArr, updH, List.foldl_append]
  rw [hupd]
  have h := HR.new (w' := w') (o' := .arr (verOf s.heap id8) fr d) k1 (k1.fresh hid) (fun o ho => by rw [hver] at ho; exact ver_new o ho) (some w.heap.size) cap ⟨hw.1, hw.2.1, hw.2.2.1, by rw [hw.2.2.2]; simp⟩ (fun k hk => by injection hk with hk; subst hk; rw [hw.2.2.2]; simp) hpush
    (fun hev => ⟨es, xs, he, hes, hxs, (fun hx => absurd hx (by rw [Pl.put_blk]; simp)), fun b hb => by
      rw [Pl.put_blk] at hb
      injection hb with hb
      subst hb
      refine ⟨vs, T, by rw [hw.2.2.2]; simp, by rw [Pl.put_cap]; exact hsz, by rw [Pl.put_cap]; exact hcap, fun j o e hje => ?_⟩
      obtain ⟨u, hu, hrr⟩ := hr _ k3 j o e hje
      exact ⟨u, hu, hev.reads hrr⟩⟩)
  refine ⟨_, h.1, ⟨fun id o ho => ?_, fun f b hb hz => ?_, fun b hb _ => hpush b hb⟩, ⟨_, _, _, rfl⟩, ?_⟩
  · by_cases hi : id = id8
    · subst hi
      exact ⟨.arr (verOf s.heap id) fr d, by rw [getA_setA, if_pos rfl], .inl (ver_new o ho)⟩
    · obtain ⟨o1, g1, t1⟩ := k2.obj id o ho
      refine ⟨o1, by rw [getA_setA, if_neg (fun e => hi e.symm)]; exact g1, ?_⟩
      rcases t1 with t1 | t1
      · exact .inl t1
      · right
        rw [Pl.put_blk_ne _ _ _ hi, Pl.put_cap_ne _ _ _ hi]
        exact t1
  · exact h.2.zon f b hb (k2.zon f b hb hz)
  · simp only [oslR, getA_setA, if_true]
    exact ⟨Nat.le_refl _, fun _ => ⟨_, _, rfl, by omega, by rw [elems_len he]; exact hcap, fun _ => ⟨_, Pl.put_blk .., by simp, by rw [Pl.put_cap]; omega⟩⟩⟩
theorem sim_buildSlice (hP : TVOk P tv) (hid : id8 < 8000) (hd : ∀ d, dst = some d → d < n) (R : Rel E n s a w) (t : TypeId) (len : Nat) (parts : Array (Nat × Operand)) (h : act tv s id8 (.buildSlice t len parts) = some st) : Sim P E n s a w ⟨dst, .buildSlice t len parts, ty, pos, aft, g⟩ st := by
  obtain ⟨pl, hH, hdf, hn, henv⟩ := R
  simp only [act, elemTy] at h
  split at h
  · rename_i e _ _ _ ht
    obtain ⟨i1, dd1, z1, g1, g2, g3, g4, g5, g6, g7, g8, g9⟩ := ofTV hP ht
    have g8 : dd1 = .slice e := g8
    subst g8
    unfold actBuildSlice at h
    split at h
    · rename_i te hte
      obtain ⟨i2, dd2, z2, q1, q2, q3, q4, q5, q6, q7, q8, q9⟩ := ofTV hP hte
      split at h
      · rename_i hcond
        obtain ⟨hpl, hbig⟩ := hcond
        split at h
        · rename_i xs fr ks hlit
          split at h
          · rename_i hnd
            simp only [Option.map_eq_some_iff] at h
            obtain ⟨d, hmk, rfl⟩ := h
            obtain ⟨he, hs0⟩ := mkRow_elems hmk
            have hlen : parts.size = len := by simpa [evParts] using hpl
            let z0 : Array Value := if len * te.size = 0 then #[] else z2.cells
            let cur0 : Array Value := (Array.range (len * te.size)).map (z0[· % z0.size]!)
            have hfill := fun H' (hk : Killed s.heap H' ks) => fill_rows hH henv hk parts.toList 0 cur0 xs fr ks hlit (by simp [cur0, hlen]) (fun _ h => h)
            obtain ⟨k1, k2, k3⟩ := kill_all hH ks (litRows_ks hlit) (by simp [nodupB] at hnd; exact hnd.2) s.heap (fun _ _ => rfl)
            obtain ⟨cur', f1, f2, f3, f4, f5, f6⟩ := hfill _ k3
            have hxl : xs.length = len := by rw [f4]; simpa using hlen
            obtain ⟨pl', h1, h2, h3⟩ := new_arr (w' := { w with heap := w.heap.push (.cells cur' e) }) (vc := True) (rd := ks) hH hid (litRows_ks hlit) hnd he hs0 f5 (vs := cur') (T := e) (cap := len) ⟨rfl, rfl, rfl, rfl⟩ (by rw [f2]; simp [cur0]) (by omega)
              (fun H' hk j o x hx => by
                obtain ⟨cur2, e1, _, _, _, _, e6⟩ := hfill H' hk
                rw [f1] at e1
                injection e1 with e1
                subst e1
                simpa using e6 j o x hx)
            refine sim_new hdf hn henv hd rfl ?_ h1 h2 h3
            have hbig' : ¬ (16777216 < len * i2.size) := by rw [q3]; omega
            have f1' : Instr.fill (fun i => some (i * i2.size, i2.size)) (Array.map (fun x => z0[x % z0.size]!) (Array.range (len * i2.size))) (parts.map fun (i, x) => (i, a.eval x)).toList = some cur' := by
              rw [q3]
              rw [← f1]
              simp [cur0]
            have hz0 : z0 = if len * i2.size = 0 then #[] else z2.cells := by rw [q3]
            simp only [execOp, Instr.buildSlice, Sem.run_bind, run_underlying g2, Result.andThen_ok, sizeOf, typeInfo, run_program, q1, Sem.run_pure]
            rw [if_neg (by simpa using hbig')]
            by_cases hz : len * i2.size = 0
            · rw [if_pos hz] at hz0
              rw [if_pos hz]
              rw [hz0] at f1'
              simp only [Sem.run_bind, Sem.run_pure, Result.andThen_ok, f1', newRow, run_newObj]
              rw [elems_len he, hxl]
            · rw [if_neg hz] at hz0
              rw [if_neg hz]
              rw [hz0] at f1'
              simp only [Sem.run_bind, Sem.run_pure, Result.andThen_ok, zeroValue, typeInfo, run_program, q1, q5, f1', newRow, run_newObj]
              rw [elems_len he, hxl]
          · cases h
        · cases h
      · cases h
    · cases h
  · cases h
end
end Go.AM
