/- The abstract machine's operations are the model's: rows that are made with a size, rows that grow. -/
import Derived.Test.YtaicenafkjbnoaaAmK
set_option linter.unusedVariables false
set_option linter.unusedSimpArgs false
set_option linter.unusedSectionVars false
namespace Go.AM

section
variable {P : Program} {tv : TV} {E : Ent} {n : Nat} {s : St} {a : Act} {w : World} {dst : Option Tmp} {ty : TypeId} {pos : String} {aft : Array Edge} {g : Option (Nat × Bool)} {st : Step} {id8 : Nat}

theorem zeroDs_get : ∀ {cs : List C} {ds : List D}, zeroDs cs = some ds → ds.length = cs.length ∧ ∀ (o : Nat) e, ds[o]? = some e → ∃ c, cs[o]? = some c ∧ ∀ v Z (w : World), ZC c v → Reads Z w v e
  | [], ds, h => by simp [zeroDs] at h; subst h; simp
  | c :: r, ds, h => by
    simp only [zeroDs] at h
    split at h
    · rename_i d f k ds' h1 h2
      injection h with h
      subst h
      have ih := zeroDs_get h2
      refine ⟨by simp [ih.1], fun o e ho => ?_⟩
      cases o with
      | zero =>
        simp only [List.getElem?_cons_zero, Option.some.injEq] at ho
        subst ho
        refine ⟨c, rfl, fun v Z w hz => ?_⟩
        cases c <;> simp only [frzD, getA, Option.some.injEq, Prod.mk.injEq, reduceCtorEq] at h1 <;> (try exact hz.elim) <;> obtain ⟨rfl, rfl, rfl⟩ := h1
        · obtain rfl : v = _ := hz; exact .int _ _
        · obtain rfl : v = _ := hz; exact .bool _
        · obtain rfl : v = _ := hz; exact .str _
        · obtain rfl : v = _ := hz
          exact .slice none 0 0 _ 1 [] rfl rfl (Nat.le_refl _) Nat.one_pos (by simp) ⟨0, 0, none⟩ (fun _ _ => undef) (fun h => absurd h (by omega)) (fun j o hj => absurd hj (by omega)) (fun j o e h => by simp at h)
      | succ o => simpa using ih.2 o e (by simpa using ho)
    · cases h
theorem sim_makeSlice (hP : TVOk P tv) (hid : id8 < 8000) (hd : ∀ d, dst = some d → d < n) (R : Rel E n s a w) (t : TypeId) (l c : Operand) (h : act tv s id8 (.makeSlice t l c) = some st) (hvc : st.vc) : Sim P E n s a w ⟨dst, .makeSlice t l c, ty, pos, aft, g⟩ st := by
  obtain ⟨pl, hH, hdf, hn, henv⟩ := R
  have hl := ev_c henv l
  have hc := ev_c henv c
  simp only [act, elemTy] at h
  split at h
  · rename_i e _ _ _ ht
    obtain ⟨i1, dd1, z1, g1, g2, g3, g4, g5, g6, g7, g8, g9⟩ := ofTV hP ht
    have g8 : dd1 = .slice e := g8
    subst g8
    unfold actMakeSlice at h
    split at h
    · rename_i te nn mm hte hlc hcc
      obtain ⟨i2, dd2, z2, q1, q2, q3, q4, q5, q6, q7, q8, q9⟩ := ofTV hP hte
      simp only [Option.map_eq_some_iff] at h
      obtain ⟨d, hmk, rfl⟩ := h
      obtain ⟨h0, h1, h2, h3⟩ := hvc
      rw [hlc] at hl
      rw [hcc] at hc
      have hl : a.eval l = .int .i64 nn := hl
      have hc : a.eval c = .int .i64 mm := hc
      unfold mkZero at hmk
      split at hmk
      · cases hmk
      · rename_i hsz
        split at hmk
        · rename_i ds hds
          obtain ⟨he, hs0⟩ := mkRow_elems hmk
          have hz := zeroDs_get hds
          have hzl : te.zero.length = te.size := by omega
          have hr := run_make (P := P) w t e i2 z2 g2 q1 q5 .i64 .i64 nn mm h0 h1 (by rw [q4, Int.mul_comm]; omega) h3
          obtain ⟨pl', k1, k2, k3⟩ := new_arr (w' := w.alloc (.cells (madeCells z2.cells (mm.toNat * i2.size)) e)) (ks := []) (fr := true) (vc := 0 ≤ nn ∧ nn ≤ mm ∧ mm * te.bytes ≤ 140737488355328 ∧ mm ≤ 9223372036854775807) (rd := []) hH hid (fun k hk => by cases hk) rfl he hs0
            (fun x hx => by rw [List.eq_of_mem_replicate hx, hz.1, hzl]) (vs := madeCells z2.cells (mm.toNat * i2.size)) (T := e) (cap := mm.toNat) ⟨rfl, rfl, rfl, rfl⟩ (by rw [size_madeCells, q3]) (by simp; omega)
            (fun H' hk j o x hx => by
              have hj : j < nn.toNat := by
                cases hjj : (List.replicate nn.toNat ds)[j]? with
                | none => rw [hjj] at hx; cases hx
                | some y => simpa using (List.getElem?_eq_some_iff.1 hjj).1
              rw [List.getElem?_replicate, if_pos hj] at hx
              have hx : ds[o]? = some x := hx
              obtain ⟨c', hc', hrd⟩ := hz.2 o x hx
              obtain ⟨v, hv, hzc⟩ := q7 o c' hc'
              have ho : o < te.size := by rw [← hzl]; exact (List.getElem?_eq_some_iff.1 hc').1
              refine ⟨v, ?_, hrd v _ _ hzc⟩
              have hlt : j * te.size + o < mm.toNat * i2.size := by
                rw [q3]
                calc j * te.size + o < j * te.size + te.size := by omega
                  _ = (j + 1) * te.size := by rw [Nat.add_mul]; omega
                  _ ≤ mm.toNat * te.size := Nat.mul_le_mul_right _ (by omega)
              have hmod : (j * te.size + o) % z2.cells.size = o := by rw [q6, hzl, Nat.mul_comm, Nat.mul_add_mod, Nat.mod_eq_of_lt ho]
              have hos : o < z2.cells.size := by rw [q6, hzl]; exact ho
              simp only [madeCells, Array.getElem?_map, Array.getElem?_range, hlt, if_true, Option.map_some, hmod]
              rw [← hv, Array.getElem?_eq_getElem hos]
              simp [hos])
          refine sim_new hdf hn henv hd rfl ?_ k1 k2 k3
          simp only [execOp, hl, hc, Sem.run_bind, hr, Result.andThen_ok, Sem.run_pure]
          rw [elems_len he]
          simp
        · cases hmk
    · cases h
  · cases h

/-! ### append -/
theorem run_append_room' {T : TypeId} (t ty e : TypeId) (i : TypeInfo) (ht : P.underlying t = some (.slice e)) (hi : P.info? e = some i)
    (g sLen sCap : Nat) (cur : Array Value) (hg : w.heap[g]? = some (.cells cur T (0, 0)))
    (q : Addr) (m c : Nat) (news : List Value) (hl : news.length = m * i.size) (hnews : ∀ (j : Nat) u, news[j]? = some u → w.cell? (q.add j) = some u) (h1 : ∀ u ∈ news, u.oneCell' = true)
    (hroom : sLen + m ≤ sCap) (hfit : sLen * i.size + news.length ≤ cur.size) :
    (Builtin.append_ #[t, t] ty #[.slice (some ⟨g, 0, none⟩) sLen sCap, .slice (some q) m c]).run P w =
      .ok (.slice (some ⟨g, 0, none⟩) (sLen + m) sCap) (w.setRow g (cur.toList.take (sLen * i.size) ++ news ++ cur.toList.drop (sLen * i.size + news.length)).toArray) := by
  have hf := run_firstCells_some (P := P) w i.size m q m c news hl hnews
  have hst := run_storeCells_at P g (sLen * i.size) T news 0 cur w hg (by simpa using hfit) h1
  simp only [Nat.add_zero] at hst
  simp [Builtin.append_, run_underlying ht, sizeOf, typeInfo, hi, Builtin.lenOf, hroom, hf, Addr.add_lit, hst]
theorem run_append_none (t ty e : TypeId) (i : TypeInfo) (ht : P.underlying t = some (.slice e)) (hi : P.info? e = some i)
    (ad q : Option Addr) (sLen sCap c : Nat) (hc : sLen ≤ sCap) : (Builtin.append_ #[t, t] ty #[.slice ad sLen sCap, .slice q 0 c]).run P w = .ok (.slice ad sLen sCap) w := by
  cases ad <;> cases q <;> simp [Builtin.append_, run_underlying ht, sizeOf, typeInfo, hi, Builtin.lenOf, hc, Builtin.firstCells, loadCells, loadCellsFrom, storeCells]
theorem run_append_more (t ty e : TypeId) (i : TypeInfo) (z : Value) (ht : P.underlying t = some (.slice e)) (hi : P.info? e = some i) (hz : i.zero = some z) (hzs : z.cells.size = i.size)
    (ad : Option Addr) (sLen sCap : Nat) (olds : List Value) (hlo : olds.length = sLen * i.size) (had : ad = none → sLen = 0 ∧ sCap = 0) (holds : ∀ (q : Addr) (j : Nat) v, ad = some q → olds[j]? = some v → w.cell? (q.add j) = some v)
    (q : Addr) (m c : Nat) (news : List Value) (hl : news.length = m * i.size) (hnews : ∀ (j : Nat) v, news[j]? = some v → w.cell? (q.add j) = some v)
    (hg : sCap < sLen + m) (hb : (sLen + m) * i.bytes ≤ 140737488355328) (hb0 : i.bytes ≠ 0) :
    ∃ nc W, (Builtin.append_ #[t, t] ty #[.slice ad sLen sCap, .slice (some q) m c]).run P w = .ok (.slice (some ⟨w.heap.size, 0, none⟩) (sLen + m) nc) W ∧ sLen + m ≤ nc ∧ W.os = w.os ∧ W.tape = w.tape ∧ W.output = w.output ∧
      ∃ vs : Array Value, W.heap = w.heap.push (.cells vs e) ∧ vs.size = nc * i.size ∧ ∀ k : Nat, k < (sLen + m) * i.size → vs[k]? = (olds ++ news)[k]? := by
  have h63 : ((sLen + m : Nat) : Int) ≤ 9223372036854775807 := by
    have : sLen + m ≤ (sLen + m) * i.bytes := Nat.le_mul_of_pos_right _ (by omega)
    omega
  have fin : ∀ vs0 : Array Value, vs0.toList = olds ++ news → ∀ nc, sLen + m ≤ nc → (vs0 ++ Builtin.zeroCells z.cells (nc - (sLen + m))).size = nc * i.size ∧ ∀ k : Nat, k < (sLen + m) * i.size → (vs0 ++ Builtin.zeroCells z.cells (nc - (sLen + m)))[k]? = (olds ++ news)[k]? := by
    intro vs0 h0 nc hnc
    have hsz : vs0.size = (sLen + m) * i.size := by
      rw [← Array.length_toList, h0, List.length_append, hlo, hl, ← Nat.add_mul]
    refine ⟨?_, fun k hk => ?_⟩
    · rw [Array.size_append, hsz, size_zeroCells, hzs, ← Nat.add_mul]
      congr 1
      omega
    · rw [Array.getElem?_append_left (by omega), ← h0, Array.getElem?_toList]
  cases ad with
  | none =>
    obtain ⟨rfl, rfl⟩ := had rfl
    have ho : olds = [] := List.eq_nil_of_length_eq_zero (by simpa using hlo)
    subst ho
    have hr := run_append_nil (P := P) w t ty e i z ht hi hz q m c news hl hnews (by omega) (by omega) (by simp only [Nat.zero_add] at hb; omega)
    simp only [Nat.zero_add] at hb fin ⊢
    have hge := grownCap_ge w m 0 e
    have := fin news.toArray (by simp) _ (by simpa using hge)
    exact ⟨_, _, hr, hge, rfl, rfl, rfl, _, rfl, this.1, this.2⟩
  | some b =>
    have hr := run_append_grow (P := P) w t ty e i z ht hi hz b sLen sCap olds hlo (fun j v => holds b j v rfl) q m c news hl hnews hg h63 (growslice_fits hg hb)
    have hge := grownCap_ge w (sLen + m) sCap e
    have := fin (olds.toArray ++ news.toArray) (by simp) _ hge
    exact ⟨_, _, hr, hge, rfl, rfl, rfl, _, rfl, this.1, this.2⟩

theorem app_len {d e d' : D} (hd : d.isRow = true) (he : e.isRow = true) (h : d.app e = some d') : d'.len = d.len + e.len := by
  obtain ⟨xs, h1⟩ := row_elems hd
  obtain ⟨ys, h2⟩ := row_elems he
  have h3 := (elems_app h1 h2 h).2
  rw [elems_len h1, elems_len h2, elems_len h3]
  simp
/-- What the cells of two rows, one behind the other, read as. -/
theorem app_cells {Z : Nat → Prop} {es : Nat} {xs ys : List (List D)} {us vs : List Value} (hxs : ∀ x ∈ xs, x.length = es) (hys : ∀ x ∈ ys, x.length = es) (hu : us.length = xs.length * es)
    (h1 : ∀ (j o : Nat) e, (xs[j]?.bind (·[o]?)) = some e → ∃ u, us[j * es + o]? = some u ∧ Reads Z w u e) (h2 : ∀ (j o : Nat) e, (ys[j]?.bind (·[o]?)) = some e → ∃ u, vs[j * es + o]? = some u ∧ Reads Z w u e) :
    ∀ (j o : Nat) e, ((xs ++ ys)[j]?.bind (·[o]?)) = some e → ∃ u, (us ++ vs)[j * es + o]? = some u ∧ Reads Z w u e := by
  intro j o e h
  by_cases hj : j < xs.length
  · rw [List.getElem?_append_left hj] at h
    obtain ⟨u, hu', hr⟩ := h1 j o e h
    exact ⟨u, by rw [List.getElem?_append_left (List.getElem?_eq_some_iff.1 hu').1]; exact hu', hr⟩
  · rw [List.getElem?_append_right (by omega)] at h
    obtain ⟨u, hu', hr⟩ := h2 _ o e h
    refine ⟨u, ?_, hr⟩
    have hle : xs.length * es ≤ j * es := Nat.mul_le_mul_right _ (by omega)
    rw [List.getElem?_append_right (by omega), hu, ← hu']
    congr 1
    rw [Nat.sub_mul]
    omega
theorem sim_append (hP : TVOk P tv) (hid : id8 < 8000) (hd : ∀ d, dst = some d → d < n) (R : Rel E n s a w) (t : TypeId) (x y : Operand) (c : Call) (hc : c.callee = .builtin .append) (hts : c.argTypes = #[t, t]) (hxs : c.args = #[x, y]) {te : Ty} (hte : elemTy tv t = some te) (h : appendS s.heap id8 te (s.evC x) (s.evC y) = some st) (hvc : st.vc) : Sim P E n s a w ⟨dst, .call c, ty, pos, aft, g⟩ st := by
  obtain ⟨pl, hH, hdf, hn, henv⟩ := R
  have hx := ev_c henv x
  have hy := ev_c henv y
  have hrun : ∀ v W, (Builtin.append_ #[t, t] ty #[a.eval x, a.eval y]).run P w = .ok v W → (execOp a.eval ⟨dst, .call c, ty, pos, aft, g⟩).run P w = .ok (.value v) W := fun v W hv => by
    simp [execOp, resolve, hc, hts, hxs, invoke, builtin, hv]
  unfold elemTy at hte
  split at hte
  · rename_i el _ _ _ ht
    obtain ⟨i1, dd1, z1, g1, g2, g3, g4, g5, g6, g7, g8, g9⟩ := ofTV hP ht
    have g8 : dd1 = .slice el := g8
    subst g8
    obtain ⟨i2, dd2, z2, q1, q2, q3, q4, q5, q6, q7, q8, q9⟩ := ofTV hP hte
    unfold appendS at h
    split at h
    · cases h
    · rename_i e fe hrow
      obtain ⟨ad, cap, ys, us, hv, he, hes, hys, hul, hne, hcell, hone, hrd⟩ := row_src hH hy hrow
      have hyl : ys.length = e.len := (elems_len he).symm
      try simp only at h
      split at h
      · cases h
      · rename_i hcond
        have hesz : e.es = te.size := by omega
        have hb0 : te.bytes ≠ 0 := by omega
        have hzz : z2.cells.size = i2.size := by rw [q6, q3]; exact (hP _ _ hte).zlen
        have hul' : us.length = e.len * i2.size := by rw [hul, hesz, q3]
        split at h
        · rename_i hxc
          injection h with h
          subst h
          rw [hxc] at hx
          have hx : a.eval x = .slice none 0 0 := hx
          have hvc : e.len * te.bytes ≤ 140737488355328 := hvc
          have hkz : ∀ H', Killed s.heap H' [] → ∀ b, ¬ zone E.b s.heap pl fe b → ¬ zone E.b H' pl fe b := fun H' hk b hz => by
            rintro (⟨id, o, a1, a2, a3⟩ | hzz)
            · rw [hk.out id (by simp)] at a1
              exact hz (.inl ⟨id, o, a1, a2, a3⟩)
            · exact hz (.inr hzz)
          by_cases h0 : e.len = 0
          · have hr := run_append_none (P := P) (w := w) t ty el i2 g2 q1 none ad 0 0 cap (Nat.le_refl _)
            have hys0 : ys = [] := List.eq_nil_of_length_eq_zero (by omega)
            have hN := HR.new (w' := w) (o' := .arr (verOf s.heap id8) fe e) hH (hH.fresh hid) ver_new none 0 ⟨rfl, rfl, rfl, Nat.le_refl _⟩ (fun k hk => by cases hk) (fun k hk => rfl)
              (fun hev => ⟨e.es, ys, he, hes, hys, fun _ => hys0, fun b hb => by rw [Pl.put_blk] at hb; cases hb⟩)
            refine sim_new (v := .slice none 0 0) hdf hn henv hd rfl (hrun _ _ (by rw [hx, hv, h0]; exact hr)) hN.1 hN.2 ⟨⟨_, _, _, rfl⟩, ?_⟩
            simp only [oslR, newArr, updH, List.nil_append, List.foldl, getA_setA, if_true]
            exact ⟨Nat.le_refl _, fun _ => ⟨none, 0, by rw [h0], by omega, by omega, fun h => absurd h (by omega)⟩⟩
          · cases had : ad with
            | none => exact absurd had (hne (by omega))
            | some q =>
              obtain ⟨nc, W, hr, hnc, o1, o2, o3, vs, hW, hvs, hcells⟩ := run_append_more (P := P) (w := w) t ty el i2 z2 g2 q1 q5 hzz none 0 0 [] (by simp) (fun _ => ⟨rfl, rfl⟩) (fun q j v h => by cases h) q e.len cap us hul' (fun j v hj => hcell q j v had hj) (by omega) (by rw [q4, Nat.zero_add]; exact hvc) (by rw [q4]; exact hb0)
              simp only [Nat.zero_add, List.nil_append] at hr hcells hnc
              obtain ⟨pl', k1, k2, k3⟩ := new_arr (w' := W) (ks := []) (fr := fe) (vc := e.len * te.bytes ≤ 140737488355328) (rd := (match s.evC y with | .osl i _ _ _ => [i] | _ => [])) hH hid (fun k hk => by cases hk) rfl he hes hys (vs := vs) (T := el) (cap := nc) ⟨o1, o2, o3, hW⟩ (by rw [hvs, q3, hesz]) (by omega)
                (fun H' hk j o x' hxx => by
                  obtain ⟨u, hu, hrr⟩ := hrd j o x' hxx
                  have hlt : j * e.es + o < us.length := (List.getElem?_eq_some_iff.1 hu).1
                  exact ⟨u, by rw [hcells _ (by rw [← hul']; exact hlt)]; exact hu, hrr.mono fun b hb hz => ⟨hkz H' hk b hz, rfl⟩⟩)
              exact sim_new hdf hn henv hd rfl (hrun _ _ (by rw [hx, hv, had]; exact hr)) k1 k2 k3
        · rename_i id ver len hxc
          rw [hxc] at hx
          obtain ⟨_, hx⟩ := hx
          split at h
          · rename_i ver' fd d hg
            split at h
            · rename_i hver
              subst hver
              split at h
              · rename_i d' happ
                injection h with h
                subst h
                obtain ⟨hlen, hvc⟩ := hvc
                unfold oslR at hx
                rw [hg] at hx
                obtain ⟨ax, capx, hvx, hol, hlc, hcp⟩ := hx.2 rfl
                obtain ⟨es', xs, w1, w2, w3, w4, w5⟩ := hH.objs id _ hg
                obtain ⟨hee, wd'⟩ := elems_app w1 he happ
                have hes' : es' = te.size := by rw [hee, hesz]
                have hxl : xs.length = len := by rw [← elems_len w1, hlen]
                have hd'len : d'.len = len + e.len := by rw [elems_len wd', List.length_append, hxl, hyl]
                have hall : ∀ x ∈ xs ++ ys, x.length = es' := fun x hx => by
                  rcases List.mem_append.1 hx with hx | hx
                  · exact w3 x hx
                  · rw [hys x hx, hee]
                have hval : ∀ (pl' : Pl) (v : Value) (b : Nat) (cp : Nat), v = .slice (some ⟨b, 0, none⟩) (len + e.len) cp → pl'.blk id = some b → len + e.len ≤ cp → cp ≤ pl'.cap id → ∀ W, LVR E.b (setA id (.arr (ver + 1) (fd && fe) d') s.heap) pl' W (.v (.c (.osl id (ver + 1) 0 (len + e.len)))) v := by
                  intro pl' v b cp hvv hb h1 h2 W
                  refine ⟨⟨_, _, _, hvv⟩, ?_⟩
                  simp only [oslR, getA_setA, if_true]
                  exact ⟨Nat.le_refl _, fun _ => ⟨_, cp, hvv, by omega, h1, fun _ => ⟨b, hb, by simp, by omega⟩⟩⟩
                by_cases h0 : e.len = 0
                · have hr := run_append_none (P := P) (w := w) t ty el i2 g2 q1 ax ad len capx cap hlc
                  have hys0 : ys = [] := List.eq_nil_of_length_eq_zero (by omega)
                  have hS := HR.set hH (o' := .arr (ver + 1) (fd && fe) d') (w' := w) hg rfl rfl (Nat.le_succ _) (.inl (Nat.lt_succ_self _)) ⟨rfl, rfl, rfl, rfl⟩ (fun k _ => rfl)
                    (fun hev => ⟨es', _, wd', w2, hall, fun hb => by rw [hys0, List.append_nil]; exact w4 hb, fun b hb => by
                      obtain ⟨vs, T, k1, k2, k3, k4⟩ := w5 b hb
                      refine ⟨vs, T, k1, k2, by rw [hys0, List.append_nil]; exact k3, fun j o x' hxx => ?_⟩
                      rw [hys0, List.append_nil] at hxx
                      obtain ⟨u, hu, hrr⟩ := k4 j o x' hxx
                      exact ⟨u, hu, (hev.reads hrr).mono fun b _ hz => ⟨zone_sub hz fe, rfl⟩⟩⟩)
                  refine sim_new (v := .slice ax len capx) hdf hn henv hd rfl (hrun _ _ (by rw [hvx, hv, h0]; exact hr)) hS.1 hS.2 ⟨⟨_, _, _, rfl⟩, ?_⟩
                  simp only [oslR, updH, List.foldl, getA_setA, if_true]
                  exact ⟨Nat.le_refl _, fun _ => ⟨ax, capx, by rw [h0]; rfl, by omega, by omega, fun h => let ⟨b, hb, ha, hc⟩ := hcp h; ⟨b, hb, by rw [ha]; simp, hc⟩⟩⟩
                · cases had : ad with
                  | none => exact absurd had (hne (by omega))
                  | some q =>
                    by_cases hroom : len + e.len ≤ capx
                    · obtain ⟨b, hb, hax, hcap⟩ := hcp (by omega)
                      obtain ⟨vs, T, k1, k2, k3, k4⟩ := w5 b hb
                      rw [Nat.zero_mul] at hax
                      have hfit : len * i2.size + us.length ≤ vs.size := by
                        rw [hul', k2, ← Nat.add_mul, q3, hes']
                        exact Nat.mul_le_mul_right _ (by omega)
                      have hr := run_append_room' (P := P) (w := w) t ty el i2 g2 q1 b len capx vs k1 q e.len cap us hul' (fun j u hj => hcell q j u had hj) hone hroom hfit
                      have hS := HR.set hH (o' := .arr (ver + 1) (fd && fe) d') (w' := w.setRow b (vs.toList.take (len * i2.size) ++ us ++ vs.toList.drop (len * i2.size + us.length)).toArray) hg rfl rfl (Nat.le_succ _) (.inl (Nat.lt_succ_self _)) ⟨rfl, rfl, rfl, by simp⟩ (fun k hk => setRow_other w b k _ (fun e => hk (e ▸ hb)))
                        (fun hev => ⟨es', _, wd', w2, hall, (fun hbn => absurd hbn (by rw [hb]; simp)), fun b' hb' => by
                          rw [hb] at hb'
                          injection hb' with hb'
                          subst hb'
                          refine ⟨_, T, setRow_heap w b vs _ T (0, 0) k1, ?_, by rw [List.length_append]; omega, fun j o x' hxx => ?_⟩
                          · rw [← k2]
                            simp only [List.size_toArray, List.length_append, List.length_take, List.length_drop, Array.length_toList]
                            omega
                          · have hul2 : (vs.toList.take (len * i2.size)).length = xs.length * es' := by rw [hxl, hes', ← q3]; simp; omega
                            obtain ⟨u, hu, hrr⟩ := app_cells (w := w) (Z := zone E.b s.heap pl (fd && fe)) w3 (fun x hx => by rw [hys x hx, hee]) hul2 (fun j o e hje => by
                                obtain ⟨u, hu, hrr⟩ := k4 j o e hje
                                refine ⟨u, ?_, hrr.mono fun b _ hz => ⟨zone_sub hz fe, rfl⟩⟩
                                have hlt : j * es' + o < xs.length * es' := by
                                  cases hxj : xs[j]? with
                                  | none => rw [hxj] at hje; cases hje
                                  | some y =>
                                    rw [hxj] at hje
                                    have ho := (List.getElem?_eq_some_iff.1 hje).1
                                    rw [w3 y (List.mem_of_getElem? hxj)] at ho
                                    have hjl := (List.getElem?_eq_some_iff.1 hxj).1
                                    calc j * es' + o < j * es' + es' := by omega
                                      _ = (j + 1) * es' := by rw [Nat.add_mul]; omega
                                      _ ≤ xs.length * es' := Nat.mul_le_mul_right _ hjl
                                rw [List.getElem?_take, if_pos (by rw [q3, ← hes', ← hxl]; exact hlt)]
                                simpa using hu) (fun j o e hje => by
                                obtain ⟨u, hu, hrr⟩ := hrd j o e hje
                                exact ⟨u, by rw [hee]; exact hu, hrr.mono fun b _ hz => ⟨zone_sub' hz fd, rfl⟩⟩) j o x' hxx
                            refine ⟨u, ?_, hev.reads hrr⟩
                            simp only [List.getElem?_toArray]
                            rw [List.getElem?_append_left (List.getElem?_eq_some_iff.1 hu).1]
                            exact hu⟩)
                      exact sim_new hdf hn henv hd rfl (hrun _ _ (by rw [hvx, hv, had, hax]; exact hr)) hS.1 hS.2 (hval pl _ b capx rfl hb hroom (by omega) _)
                    · have holds : ∃ olds : List Value, olds.length = len * i2.size ∧ (ax = none → len = 0 ∧ capx = 0) ∧ (∀ (q : Addr) (j : Nat) v, ax = some q → olds[j]? = some v → w.cell? (q.add j) = some v) ∧
                          ∀ (j o : Nat) e, (xs[j]?.bind (·[o]?)) = some e → ∃ u, olds[j * es' + o]? = some u ∧ Reads (zone E.b s.heap pl fd) w u e := by
                        by_cases hc0 : 0 < capx
                        · obtain ⟨b, hb, hax, hcap⟩ := hcp hc0
                          obtain ⟨vs, T, k1, k2, k3, k4⟩ := w5 b hb
                          rw [Nat.zero_mul] at hax
                          refine ⟨vs.toList.take (len * i2.size), ?_, (fun h => absurd h (by rw [hax]; simp)), fun q' j v hq hj => ?_, fun j o e hje => ?_⟩
                          · have : len * i2.size ≤ vs.size := by rw [k2, q3, hes']; exact Nat.mul_le_mul_right _ (by omega)
                            simp; omega
                          · rw [hax] at hq
                            injection hq with hq
                            subst hq
                            rw [add_off, cell_of k1, Nat.zero_add]
                            rw [List.getElem?_take] at hj
                            split at hj
                            · simpa using hj
                            · cases hj
                          · obtain ⟨u, hu, hrr⟩ := k4 j o e hje
                            refine ⟨u, ?_, hrr⟩
                            have hlt : j * es' + o < xs.length * es' := by
                              cases hxj : xs[j]? with
                              | none => rw [hxj] at hje; cases hje
                              | some y =>
                                rw [hxj] at hje
                                have ho := (List.getElem?_eq_some_iff.1 hje).1
                                rw [w3 y (List.mem_of_getElem? hxj)] at ho
                                have hjl := (List.getElem?_eq_some_iff.1 hxj).1
                                calc j * es' + o < j * es' + es' := by omega
                                  _ = (j + 1) * es' := by rw [Nat.add_mul]; omega
                                  _ ≤ xs.length * es' := Nat.mul_le_mul_right _ hjl
                            rw [List.getElem?_take, if_pos (by rw [q3, ← hes', ← hxl]; exact hlt)]
                            simpa using hu
                        · have hl0 : len = 0 := by omega
                          have hx0 : xs = [] := List.eq_nil_of_length_eq_zero (by omega)
                          exact ⟨[], by simp [hl0], fun _ => ⟨hl0, by omega⟩, fun _ _ _ _ h => by simp at h, fun j o e h => by simp [hx0] at h⟩
                      obtain ⟨olds, hol1, hol2, hol3, hol4⟩ := holds
                      obtain ⟨nc, W, hr, hnc, o1, o2, o3, vs, hW, hvs, hcells⟩ := run_append_more (P := P) (w := w) t ty el i2 z2 g2 q1 q5 hzz ax len capx olds hol1 hol2 hol3 q e.len cap us hul' (fun j v hj => hcell q j v had hj) (by omega) (by rw [q4]; exact hvc) (by rw [q4]; exact hb0)
                      have hN := HR.new (w' := W) (o' := .arr (ver + 1) (fd && fe) d') hH (id := id) (fun oi hoi => Nat.lt_succ_of_le (Obj.to_ver (hH.lent id _ oi hg hoi))) (fun o ho => by rw [hg] at ho; injection ho with ho; subst ho; exact Nat.lt_succ_self _) (some w.heap.size) nc ⟨o1, o2, o3, by rw [hW]; simp⟩ (fun k hk => by injection hk with hk; subst hk; rw [hW]; simp) (fun k hk => by rw [hW]; exact push_old w _ k hk)
                        (fun hev => ⟨es', _, wd', w2, hall, (fun hbn => absurd hbn (by rw [Pl.put_blk]; simp)), fun b' hb' => by
                          rw [Pl.put_blk] at hb'
                          injection hb' with hb'
                          subst hb'
                          refine ⟨vs, el, by rw [hW]; simp, by rw [Pl.put_cap, hvs, q3, hes'], by rw [Pl.put_cap, List.length_append, hxl, hyl]; exact hnc, fun j o x' hxx => ?_⟩
                          obtain ⟨u, hu, hrr⟩ := app_cells (w := w) (Z := zone E.b s.heap pl (fd && fe)) w3 (fun x hx => by rw [hys x hx, hee]) (by rw [hol1, hxl, hes', q3]) (fun j o e hje => by
                              obtain ⟨u, hu, hrr⟩ := hol4 j o e hje
                              exact ⟨u, hu, hrr.mono fun b _ hz => ⟨zone_sub hz fe, rfl⟩⟩) (fun j o e hje => by
                              obtain ⟨u, hu, hrr⟩ := hrd j o e hje
                              exact ⟨u, by rw [hee]; exact hu, hrr.mono fun b _ hz => ⟨zone_sub' hz fd, rfl⟩⟩) j o x' hxx
                          have hlt : j * es' + o < (olds ++ us).length := (List.getElem?_eq_some_iff.1 hu).1
                          rw [List.length_append, hol1, hul', ← Nat.add_mul] at hlt
                          exact ⟨u, by rw [hcells _ hlt]; exact hu, hev.reads hrr⟩⟩)
                      exact sim_new hdf hn henv hd rfl (hrun _ _ (by rw [hvx, hv, had]; exact hr)) hN.1 hN.2 (hval _ _ w.heap.size nc rfl (Pl.put_blk ..) hnc (by rw [Pl.put_cap]; omega) _)
              · cases h
            · cases h
          · cases h
        · cases h
  · cases hte
end
end Go.AM
