/- The abstract machine's operations are the model's: places, parts, lengths, texts. -/
import Derived.Test.YtaicenafkjbnoaaAmG
set_option linter.unusedVariables false
set_option linter.unusedSimpArgs false
set_option linter.unusedSectionVars false
namespace Go.AM

theorem reads_inv {Z : Nat → Prop} {w : World} {v : Value} {d : D} (h : Reads Z w v d) (hr : d.isRow = true) : ∃ (a : Option Addr) (c : Nat) (xs : List (List D)) (ad : Addr) (f : Nat → Nat → Value), v = .slice a d.len c ∧ d.elems = some (d.es, xs) ∧ d.len = xs.length ∧ d.len ≤ c ∧ 0 < d.es ∧ (∀ x ∈ xs, x.length = d.es) ∧
    (0 < d.len → a = some ad ∧ ¬ Z ad.block) ∧ (∀ j o, j < d.len → o < d.es → w.cell? (ad.add (j * d.es + o)) = some (f j o)) ∧ (∀ (j o : Nat) (e : D), (xs[j]?.bind (·[o]?)) = some e → Reads Z w (f j o) e) := by
  cases h with
  | int => simp [D.isRow] at hr
  | bool => simp [D.isRow] at hr
  | str => simp [D.isRow] at hr
  | slice a n c _ es xs he hn hc hes0 hes ad f ha hcell hrr =>
    have h1 := elems_es he
    have h2 := elems_len he
    subst h1
    have h3 : d.len = n := by omega
    subst h3
    exact ⟨a, c, xs, ad, f, rfl, he, h2, hc, hes0, hes, ha, hcell, hrr⟩
theorem run_sliceB {P : Program} {w : World} (isSlice : Bool) {len cap : Nat} {lo hi mx : Option Value} {l h : Int} {m : Nat} (hl : lo = none ∧ l = 0 ∨ ∃ k, lo = some (.int k l)) (hh : hi = none ∧ h = len ∧ mx = none ∨ ∃ k, hi = some (.int k h))
    (hm : mx = none ∧ m = cap ∨ (∃ k, mx = some (.int k h)) ∧ m = h.toNat) (h0 : 0 ≤ l) (h1 : l ≤ h) (h2 : h ≤ len) (h3 : len ≤ cap) :
    (Instr.sliceBounds isSlice len cap lo hi mx).run P w = .ok (l.toNat, h.toNat, m) w := by
  have sb : ∀ (k : IntKind) (i : Int) (y : Nat) (c : BoundsCode), 0 ≤ i → i ≤ y → (Instr.sliceBound (.int k i) y c).run P w = .ok i.toNat w := fun k i y c a1 a2 => by simp [Instr.sliceBound, asIntOf, a1, a2]
  unfold Instr.sliceBounds
  rcases hm with ⟨rfl, rfl⟩ | ⟨⟨k, rfl⟩, rfl⟩
  · rcases hh with ⟨rfl, rfl, _⟩ | ⟨k', rfl⟩
    · rcases hl with ⟨rfl, rfl⟩ | ⟨k, rfl⟩
      · rfl
      · simp only [Sem.run_bind, Sem.run_pure, Result.andThen_ok, Option.isSome_none, Bool.false_eq_true, if_false, Int.toNat_natCast, sb _ _ _ _ h0 (show l ≤ (len : Int) by omega)]
    · rcases hl with ⟨rfl, rfl⟩ | ⟨k, rfl⟩
      · simp only [Sem.run_bind, Sem.run_pure, Result.andThen_ok, sb _ _ _ _ (show (0 : Int) ≤ h by omega) (show h ≤ (m : Int) by omega)]
        rfl
      · simp only [Sem.run_bind, Sem.run_pure, Result.andThen_ok, Option.isSome_none, Bool.false_eq_true, if_false, sb _ _ _ _ (show (0 : Int) ≤ h by omega) (show h ≤ (m : Int) by omega), sb _ _ _ _ h0 (show l ≤ (h.toNat : Int) by omega)]
  · rcases hh with ⟨_, _, hx⟩ | ⟨k', rfl⟩
    · cases hx
    · rcases hl with ⟨rfl, rfl⟩ | ⟨k2, rfl⟩
      · simp only [Sem.run_bind, Sem.run_pure, Result.andThen_ok, sb _ _ _ _ (show (0 : Int) ≤ h by omega) (show h ≤ (cap : Int) by omega), sb _ _ _ _ (show (0 : Int) ≤ h by omega) (show h ≤ (h.toNat : Int) by omega)]
        rfl
      · simp only [Sem.run_bind, Sem.run_pure, Result.andThen_ok, Option.isSome_some, if_true, sb _ _ _ _ (show (0 : Int) ≤ h by omega) (show h ≤ (cap : Int) by omega), sb _ _ _ _ (show (0 : Int) ≤ h by omega) (show h ≤ (h.toNat : Int) by omega), sb _ _ _ _ h0 (show l ≤ (h.toNat : Int) by omega)]

section
variable {P : Program} {tv : TV} {E : Ent} {n : Nat} {s : St} {a : Act} {w : World} {dst : Option Tmp} {ty : TypeId} {pos : String} {aft : Array Edge} {g : Option (Nat × Bool)} {st : Step} {id8 : Nat}

theorem fieldsOf_out (hP : TVOk P tv) {t f off : Nat} {fy : Ty} (h : fieldsOf tv t f = some (off, fy)) :
    ∃ flds : Array Field, ∃ fl : Field, ∃ i d, P.underlying t = some (.struct flds) ∧ flds[f]? = some fl ∧ fl.offset = off ∧ P.info? fl.type = some i ∧ i.size = fy.size ∧ P.underlying fl.type = some d ∧ isAggD d = fy.k.agg := by
  unfold fieldsOf at h
  split at h
  · rename_i fs _ _ _ ht
    split at h
    · rename_i o ft hf
      simp only [Option.map_eq_some_iff] at h
      obtain ⟨y, hy, h⟩ := h
      injection h with h1 h2
      subst h1; subst h2
      obtain ⟨i, d, z, g1, g2, g3, g4, g5, g6, g7, g8, g9⟩ := ofTV hP ht
      obtain ⟨flds, rfl, _, hfl⟩ := g8
      obtain ⟨fl, k1, k2, k3, _⟩ := hfl f _ _ hf
      obtain ⟨i', d', z', q1, q2, q3, q4, q5, q6, q7, q8, q9⟩ := ofTV hP hy
      exact ⟨flds, fl, i', d', g2, k1, k2, by rw [k3]; exact q1, q3, by rw [k3]; exact q2, q9⟩
    · cases h
  · cases h
theorem ptr_add {H : Heap} {pl : Pl} {id ver j o off : Nat} {p : Addr} (h : ptrR H pl id ver j o (.pointer (some p))) : ptrR H pl id ver j (o + off) (.pointer (some (p.add off))) := by
  unfold ptrR at *
  split at h
  · refine ⟨h.1, fun e => ?_⟩
    obtain ⟨h0, b, hb, hp⟩ := h.2 e
    injection hp with hp; injection hp with hp; subst hp
    exact ⟨h0, b, hb, by rw [add_off]⟩
  · refine ⟨h.1, fun e => ?_⟩
    obtain ⟨b, hb, hp⟩ := h.2 e
    injection hp with hp; injection hp with hp; subst hp
    exact ⟨b, hb, by rw [add_off, Nat.add_assoc]⟩
  · exact h
  · exact h
theorem sim_fieldAddr (hP : TVOk P tv) (hd : ∀ d, dst = some d → d < n) (R : Rel E n s a w) (t : TypeId) (x : Operand) (f : Nat) (h : act tv s id8 (.fieldAddr t x f) = some st) : Sim P E n s a w ⟨dst, .fieldAddr t x f, ty, pos, aft, g⟩ st := by
  obtain ⟨pl, hH, hdf, hn, henv⟩ := R
  have hx := ev_c henv x
  simp only [act] at h
  unfold actFieldAddr at h
  split at h
  · rename_i off fy hf
    obtain ⟨flds, fl, i, d, g1, g2, g3, g4, g5, g6, g7⟩ := fieldsOf_out hP hf
    split at h
    · cases h
    · rename_i hsz
      have hrun : ∀ p, a.eval x = .pointer (some p) → (execOp a.eval ⟨dst, .fieldAddr t x f, ty, pos, aft, g⟩).run P w = .ok (.value (.pointer (some (p.add off)))) w := fun p hp => by
        have : ¬ i.size = 0 := by rw [g5]; exact hsz
        simp [execOp, Instr.fieldAt, run_underlying g1, g2, Instr.sureAddr, hp, fieldPlace, sizeOf, typeInfo, g4, this, g3]
      split at h
      · rename_i id ver j o hxc
        injection h with h
        subst h
        rw [hxc] at hx
        obtain ⟨⟨p, hp⟩, hr⟩ := hx
        refine sim_val hH hdf hn henv hd rfl rfl (hrun p hp) ⟨⟨_, rfl⟩, ?_⟩
        rw [hp] at hr
        exact ptr_add hr
      · rename_i fr ds hxc
        injection h with h
        subst h
        rw [hxc] at hx
        obtain ⟨p, hp, hds⟩ := hx
        refine sim_val hH hdf hn henv hd rfl rfl (hrun p hp) ⟨_, rfl, fun o e he => ?_⟩
        rw [List.getElem?_drop] at he
        obtain ⟨u, hu, hz, hr⟩ := hds _ e he
        exact ⟨u, by rw [add_add]; exact hu, by rw [add_block]; exact hz, hr⟩
      · cases h
  · cases h
theorem sim_field (hP : TVOk P tv) (hd : ∀ d, dst = some d → d < n) (R : Rel E n s a w) (t : TypeId) (x : Operand) (f : Nat) (h : act tv s id8 (.field t x f) = some st) : Sim P E n s a w ⟨dst, .field t x f, ty, pos, aft, g⟩ st := by
  obtain ⟨pl, hH, hdf, hn, henv⟩ := R
  have hx := ev_v henv x
  simp only [act] at h
  unfold actField at h
  split at h
  · rename_i off fy cs hf hxc
    obtain ⟨flds, fl, i, d, g1, g2, g3, g4, g5, g6, g7⟩ := fieldsOf_out hP hf
    rw [hxc] at hx
    obtain ⟨vs, hv, hl, hc⟩ := hx
    simp only [Option.map_eq_some_iff] at h
    obtain ⟨v, hv', rfl⟩ := h
    have hrun : ∀ u, (part fl.type vs off).run P w = .ok u w → (execOp a.eval ⟨dst, .field t x f, ty, pos, aft, g⟩).run P w = .ok (.value u) w := fun u hu => by
      simp [execOp, Instr.field, run_underlying g1, g2, hv, asAgg, g3, hu]
    have hag := run_isAgg (P := P) (w := w) g6
    unfold loadCs at hv'
    split at hv'
    · rename_i hagg
      split at hv'
      · rename_i hlen
        injection hv' with hv'
        subst hv'
        rw [g7, hagg] at hag
        refine sim_val hH hdf hn henv hd rfl rfl (hrun (.agg (vs.extract off (off + i.size))) ?_) ⟨_, rfl, ?_, fun k c hk => ?_⟩
        · simp [part, hag, sizeOf, typeInfo, g4]
        · simp only [List.length_take, List.length_drop] at hlen
          simp only [Array.size_extract, List.length_take, List.length_drop]
          omega
        · rw [List.getElem?_take] at hk
          split at hk
          · rename_i hlt
            rw [List.getElem?_drop] at hk
            obtain ⟨u, hu, hr⟩ := hc _ c hk
            refine ⟨u, ?_, hr⟩
            have hlt2 : off + k < vs.size := (Array.getElem?_eq_some_iff.1 hu).1
            rw [Array.getElem?_extract, if_pos (by omega)]
            exact hu
          · cases hk
      · cases hv'
    · rename_i hagg
      split at hv'
      · rename_i c hcc
        injection hv' with hv'
        subst hv'
        have hk : ((cs.drop off).take fy.size)[0]? = some c := by rw [hcc]; rfl
        rw [List.getElem?_take] at hk
        split at hk
        · rw [List.getElem?_drop] at hk
          obtain ⟨u, hu, hr⟩ := hc _ c hk
          have hfalse : isAggD d = false := by rw [g7]; simpa using hagg
          rw [hfalse] at hag
          refine sim_val hH hdf hn henv hd rfl rfl (hrun u ?_) hr
          simp only [Nat.add_zero] at hu
          simp [part, hag, hu]
        · cases hk
      · cases hv'
  · cases h
theorem sim_idxAddr (hP : TVOk P tv) (hd : ∀ d, dst = some d → d < n) (R : Rel E n s a w) (t : TypeId) (x i : Operand) (h : act tv s id8 (.indexAddr t x i) = some st) (hvc : st.vc) : Sim P E n s a w ⟨dst, .indexAddr t x i, ty, pos, aft, g⟩ st := by
  obtain ⟨pl, hH, hdf, hn, henv⟩ := R
  have hx := ev_c henv x
  have hi := ev_c henv i
  simp only [act] at h
  unfold actIdxAddr at h
  split at h
  · rename_i k m hic
    rw [hic] at hi
    have hi : a.eval i = .int k m := hi
    split at h
    · rename_i e sz by_ zr ht
      obtain ⟨i1, d1, z1, g1, g2, g3, g4, g5, g6, g7, g8, g9⟩ := ofTV hP ht
      have g8 : d1 = .slice e := g8
      subst g8
      unfold idxSlice at h
      split at h
      · cases h
      · rename_i te hte
        obtain ⟨i2, d2, z2, q1, q2, q3, q4, q5, q6, q7, q8, q9⟩ := ofTV hP hte
        have hrun : ∀ (p : Addr) (len cap : Nat), a.eval x = .slice (some p) len cap → 0 ≤ m → m < len → (execOp a.eval ⟨dst, .indexAddr t x i, ty, pos, aft, g⟩).run P w = .ok (.value (.pointer (some (p.add (m.toNat * te.size))))) w := fun p len cap hp h0 h1 => by
          simp [execOp, Instr.indexAt, hi, asIntOf, run_underlying g2, hp, h0, h1, sizeOf, typeInfo, q1, q3]
        split at h
        · rename_i id ver off len hxc
          rw [hxc] at hx
          obtain ⟨_, hx⟩ := hx
          split at h
          · rename_i ver' fr dd hg
            split at h
            · rename_i hcond
              obtain ⟨hver, hes⟩ := hcond
              injection h with h
              subst h
              obtain ⟨h0, h1⟩ := hvc
              unfold oslR at hx
              rw [hg] at hx
              obtain ⟨ad, cap, hv, hol, hlc, hcp⟩ := hx.2 hver
              obtain ⟨b, hb, rfl, hcap⟩ := hcp (by omega)
              refine sim_val hH hdf hn henv hd rfl rfl (hrun _ _ _ hv h0 h1) ⟨⟨_, rfl⟩, ?_⟩
              unfold ptrR
              rw [hg]
              refine ⟨hx.1, fun e => ⟨b, hb, ?_⟩⟩
              rw [add_off, hes, Nat.add_mul]
              rfl
            · cases h
          · cases h
        · rename_i fr dd hxc
          rw [hxc] at hx
          obtain ⟨hrow, hx⟩ := hx
          split at h
          · rename_i hes
            injection h with h
            subst h
            obtain ⟨h0, h1⟩ := hvc
            obtain ⟨ad, c, xs, q, f, hv, he, hl, hc, hes0, hesx, ha, hcell, hr⟩ := reads_inv hx hrow
            have hne : 0 < dd.len := by omega
            have hjx : m.toNat < xs.length := by omega
            have hat := elems_at he hjx
            rw [(ha hne).1] at hv
            refine sim_val hH hdf hn henv hd rfl rfl (hrun _ _ _ hv h0 h1) ⟨_, rfl, fun o e he' => ?_⟩
            have ho : o < dd.es := by
              have := (List.getElem?_eq_some_iff.1 he').1
              rw [hesx _ (List.mem_of_getElem? hat)] at this
              exact this
            refine ⟨f m.toNat o, ?_, by rw [add_block]; exact (ha hne).2, hr m.toNat o e (by rw [hat]; exact he')⟩
            rw [add_add, ← hes]
            exact hcell _ _ (by omega) ho
          · cases h
        · cases h
    · rename_i mm e sz by_ zr ht
      obtain ⟨i1, d1, z1, g1, g2, g3, g4, g5, g6, g7, g8, g9⟩ := ofTV hP ht
      have g8 : d1 = .array mm e := g8
      subst g8
      unfold idxArr at h
      split at h
      · cases h
      · rename_i te hte
        obtain ⟨i2, d2, z2, q1, q2, q3, q4, q5, q6, q7, q8, q9⟩ := ofTV hP hte
        split at h
        · rename_i id ver hxc
          rw [hxc] at hx
          obtain ⟨⟨p, hp⟩, hx⟩ := hx
          split at h
          · rename_i ver' fr dd hg
            split at h
            · rename_i hcond
              obtain ⟨hver, hes⟩ := hcond
              injection h with h
              subst h
              obtain ⟨h0, h1⟩ := hvc
              have hrun : (execOp a.eval ⟨dst, .indexAddr t x i, ty, pos, aft, g⟩).run P w = .ok (.value (.pointer (some (p.add (m.toNat * te.size))))) w := by
                simp [execOp, Instr.indexAt, hi, asIntOf, run_underlying g2, hp, h0, h1, sizeOf, typeInfo, q1, q3, Instr.sureAddr]
              refine sim_val hH hdf hn henv hd rfl rfl hrun ⟨⟨_, rfl⟩, ?_⟩
              unfold ptrR at *
              rw [hg] at hx ⊢
              refine ⟨hx.1, fun e => ?_⟩
              obtain ⟨b, hb, hpp⟩ := hx.2 e
              rw [hp] at hpp
              injection hpp with hpp; injection hpp with hpp; subst hpp
              exact ⟨b, hb, by rw [add_off, hes]; simp⟩
            · cases h
          · cases h
        · cases h
    · cases h
  · cases h
theorem sim_index (hP : TVOk P tv) (hd : ∀ d, dst = some d → d < n) (R : Rel E n s a w) (t : TypeId) (x i : Operand) (h : act tv s id8 (.index t x i) = some st) (hvc : st.vc) : Sim P E n s a w ⟨dst, .index t x i, ty, pos, aft, g⟩ st := by
  obtain ⟨pl, hH, hdf, hn, henv⟩ := R
  have hx := ev_c henv x
  have hi := ev_c henv i
  simp only [act] at h
  unfold actIndex at h
  split at h
  · rename_i ht
    obtain ⟨i1, d1, z1, g1, g2, g3, g4, g5, g6, g7, g8, g9⟩ := ofTV hP ht
    have g8 : d1 = .string := g8
    subst g8
    split at h
    · rename_i b k m hxc hic
      rw [hxc] at hx
      rw [hic] at hi
      have hi : a.eval i = .int k m := hi
      have hx : a.eval x = .string b := hx
      injection h with h
      subst h
      obtain ⟨h0, h1⟩ := hvc
      have hlt : m.toNat < b.size := by omega
      refine sim_val (v := .int .u8 ((b.data.getD m.toNat 0).toNat)) hH hdf hn henv hd rfl rfl ?_ rfl
      have hlt2 : m.toNat < b.data.size := hlt
      have : b[m.toNat]? = some (b.data.getD m.toNat 0) := by
        rw [getElem?_pos b m.toNat hlt]
        simp only [Option.some.injEq]
        show b.data[m.toNat] = _
        rw [Array.getD_eq_getD_getElem?, Array.getElem?_eq_getElem hlt2]
        rfl
      simp [execOp, Instr.index, hi, hx, asIntOf, run_underlying g2, h0, this]
    · cases h
  · cases h
theorem sim_slice (hP : TVOk P tv) (hd : ∀ d, dst = some d → d < n) (R : Rel E n s a w) (t : TypeId) (x : Operand) (lo hi mx : Option Operand) (h : act tv s id8 (.slice t x lo hi mx) = some st) (hvc : st.vc) : Sim P E n s a w ⟨dst, .slice t x lo hi mx, ty, pos, aft, g⟩ st := by
  obtain ⟨pl, hH, hdf, hn, henv⟩ := R
  have hx := ev_c henv x
  have hop : ∀ (o : Option Operand) (d : Option Int) (m : Int), defI s d o = some m → (o = none ∧ d = some m) ∨ ∃ k, o.map a.eval = some (.int k m) := by
    intro o d m h
    cases o with
    | none => exact .inl ⟨rfl, h⟩
    | some y =>
      have hy := ev_c henv y
      simp only [defI] at h
      split at h
      · rename_i k q hq
        injection h with h
        subst h
        rw [hq] at hy
        exact .inr ⟨k, congrArg some hy⟩
      · cases h
  simp only [act] at h
  unfold actSlice at h
  split at h
  · rename_i e sz by_ zr ht
    obtain ⟨i1, d1, z1, g1, g2, g3, g4, g5, g6, g7, g8, g9⟩ := ofTV hP ht
    have g8 : d1 = .slice e := g8
    subst g8
    split at h
    · cases h
    rename_i hfull
    unfold sliceRow at h
    split at h
    · rename_i te l hh m hte hlo hhi hmx
      obtain ⟨i2, d2, z2, q1, q2, q3, q4, q5, q6, q7, q8, q9⟩ := ofTV hP hte
      simp only [Option.map_eq_some_iff] at h
      obtain ⟨st', hs', rfl⟩ := h
      obtain ⟨hvc, hm⟩ := hvc
      have hrun : ∀ (ad : Option Addr) (len cap : Nat), a.eval x = .slice ad len cap → lenC (s.evC x) = some (len : Int) → 0 ≤ l → l ≤ hh → hh ≤ len → len ≤ cap →
          ∃ mm : Nat, hh.toNat ≤ mm ∧ mm ≤ cap ∧ (execOp a.eval ⟨dst, .slice t x lo hi mx, ty, pos, aft, g⟩).run P w = .ok (.value (.slice (if mm = l.toNat then ad else ad.map (·.add (l.toNat * te.size))) (hh.toNat - l.toNat) (mm - l.toNat))) w := by
        intro ad len cap hv hlen h0 h1 h2 h3
        have hb : ∃ mm : Nat, hh.toNat ≤ mm ∧ mm ≤ cap ∧ (Instr.sliceBounds true len cap (lo.map a.eval) (hi.map a.eval) (mx.map a.eval)).run P w = .ok (l.toNat, hh.toNat, mm) w := by
          have e1 : lo.map a.eval = none ∧ l = 0 ∨ ∃ k, lo.map a.eval = some (.int k l) := by
            rcases hop lo (some 0) l hlo with ⟨rfl, e0⟩ | hk
            · injection e0 with e0
              exact .inl ⟨rfl, e0.symm⟩
            · exact .inr hk
          have e2 : hi.map a.eval = none ∧ hh = len ∧ mx.map a.eval = none ∨ ∃ k, hi.map a.eval = some (.int k hh) := by
            rcases hop hi (lenC (s.evC x)) hh hhi with ⟨rfl, e0⟩ | hk
            · rw [hlen] at e0
              injection e0 with e0
              refine .inl ⟨rfl, e0.symm, ?_⟩
              cases mx with
              | none => rfl
              | some z => simp at hfull
            · exact .inr hk
          rcases hop mx _ m hmx with ⟨rfl, _⟩ | hk
          · exact ⟨cap, by omega, Nat.le_refl _, run_sliceB true e1 e2 (.inl ⟨rfl, rfl⟩) h0 h1 h2 h3⟩
          · rw [hm] at hk
            exact ⟨hh.toNat, Nat.le_refl _, by omega, run_sliceB true e1 e2 (.inr ⟨hk, rfl⟩) h0 h1 h2 h3⟩
        obtain ⟨mm, hm1, hm2, hb⟩ := hb
        refine ⟨mm, hm1, hm2, ?_⟩
        simp only [execOp, Instr.sliceAt, Sem.run_bind, run_underlying g2, Result.andThen_ok, Instr.slice, hv, hb]
        simp only [sizeOf, typeInfo, Sem.run_bind, run_program, Result.andThen_ok, q1, Sem.run_pure, q3]
      unfold sliceC at hs'
      split at hs'
      · rename_i id ver off len hxc
        rw [hxc] at hx
        obtain ⟨_, hx⟩ := hx
        split at hs'
        · rename_i ver' fr dd hg
          split at hs'
          · rename_i hcond
            obtain ⟨hver, hes⟩ := hcond
            injection hs' with hs'
            subst hs'
            obtain ⟨h0, h1, h2⟩ := hvc
            unfold oslR at hx
            rw [hg] at hx
            obtain ⟨ad, cap, hv, hol, hlc, hcp⟩ := hx.2 hver
            obtain ⟨mm, hm1, hm2, hr⟩ := hrun ad len cap hv (by rw [hxc]; rfl) h0 h1 h2 hlc
            refine sim_val hH hdf hn henv hd rfl rfl hr ⟨⟨_, _, _, rfl⟩, ?_⟩
            unfold oslR
            rw [hg]
            refine ⟨hx.1, fun e => ⟨_, _, rfl, by omega, by omega, fun hpos => ?_⟩⟩
            obtain ⟨b, hb, rfl, hcap⟩ := hcp (by omega)
            refine ⟨b, hb, ?_, by omega⟩
            rw [if_neg (by omega)]
            simp only [Option.map_some, add_off, hes, Nat.add_mul]
          · cases hs'
        · cases hs'
      · rename_i fr dd hxc
        rw [hxc] at hx
        obtain ⟨hrow, hx⟩ := hx
        split at hs'
        · rename_i hes
          injection hs' with hs'
          subst hs'
          obtain ⟨h0, h1, h2⟩ := hvc
          obtain ⟨ad, c, xs, q, f, hv, he, hl, hc, hes0, hesx, ha, hcell, hr⟩ := reads_inv hx hrow
          obtain ⟨mm, hm1, hm2, hrr⟩ := hrun ad dd.len c hv (by rw [hxc]; rfl) h0 h1 h2 hc
          have hcut := elems_cut he l.toNat (hh.toNat - l.toNat)
          have hlen : hh.toNat - l.toNat = ((xs.drop l.toNat).take (hh.toNat - l.toNat)).length := by simp; omega
          refine sim_val hH hdf hn henv hd rfl rfl hrr ⟨elems_row hcut, ?_⟩
          refine .slice _ _ _ _ dd.es _ hcut hlen (by omega) hes0 (fun y hy => hesx y (List.mem_of_mem_drop (List.mem_of_mem_take hy))) (q.add (l.toNat * dd.es)) (fun j o => f (l.toNat + j) o) (fun hpos => ?_) (fun j o hj ho => ?_) (fun j o e hje => ?_)
          · have := ha (by omega)
            rw [if_neg (by omega), this.1]
            exact ⟨by simp [hes], by rw [add_block]; exact this.2⟩
          · rw [add_add, ← Nat.add_assoc, ← Nat.add_mul]
            exact hcell _ _ (by omega) ho
          · apply hr (l.toNat + j) o e
            rw [List.getElem?_take] at hje
            split at hje
            · rw [List.getElem?_drop] at hje; exact hje
            · cases hje
        · cases hs'
      · rename_i hxc
        rw [hxc] at hx
        have hx : a.eval x = .slice none 0 0 := hx
        injection hs' with hs'
        subst hs'
        obtain ⟨h0, h1⟩ := hvc
        obtain ⟨mm, hm1, hm2, hr⟩ := hrun none 0 0 hx (by rw [hxc]; rfl) (by omega) (by omega) (by omega) (by omega)
        refine sim_val hH hdf hn henv hd rfl rfl hr ?_
        subst h0; subst h1
        obtain rfl : mm = 0 := by omega
        simp [pureS, LVR, VR, CR]
      · cases hs'
    · cases h
  · rename_i ht
    obtain ⟨i1, d1, z1, g1, g2, g3, g4, g5, g6, g7, g8, g9⟩ := ofTV hP ht
    have g8 : d1 = .string := g8
    subst g8
    unfold sliceStr at h
    split at h
    · rename_i b l hh hxc hlo hhi
      split at h
      · cases h
      rename_i hfull
      injection h with h
      subst h
      obtain ⟨h0, h1, h2⟩ := hvc
      rw [hxc] at hx
      have hx : a.eval x = .string b := hx
      have hmx : mx = none := by cases mx <;> simp at hfull <;> rfl
      subst hmx
      have e1 : lo.map a.eval = none ∧ l = 0 ∨ ∃ k, lo.map a.eval = some (.int k l) := by
        rcases hop lo (some 0) l hlo with ⟨rfl, e0⟩ | hk
        · injection e0 with e0
          exact .inl ⟨rfl, e0.symm⟩
        · exact .inr hk
      have e2 : hi.map a.eval = none ∧ hh = b.size ∧ (none : Option Value) = none ∨ ∃ k, hi.map a.eval = some (.int k hh) := by
        rcases hop hi (lenC (s.evC x)) hh hhi with ⟨rfl, e0⟩ | hk
        · rw [hxc] at e0
          injection e0 with e0
          exact .inl ⟨rfl, e0.symm, rfl⟩
        · exact .inr hk
      have hb := run_sliceB (P := P) (w := w) false e1 e2 (.inl ⟨rfl, rfl⟩) h0 h1 h2 (Nat.le_refl _)
      refine sim_val (v := .string (b.extract l.toNat hh.toNat)) hH hdf hn henv hd rfl rfl ?_ rfl
      simp only [execOp, Instr.sliceAt, Sem.run_bind, run_underlying g2, Result.andThen_ok, Instr.slice, hx, hb, Option.map_none, Option.isSome_none, Bool.false_eq_true, if_false, Sem.run_pure]
    · cases h
  · cases h
theorem sim_len (hP : TVOk P tv) (hd : ∀ d, dst = some d → d < n) (R : Rel E n s a w) (t : TypeId) (x : Operand) (c : Call) (hc : c.callee = .builtin .len) (hts : c.argTypes = #[t]) (hxs : c.args = #[x]) (h : actLen s.heap (tv t) (s.evC x) = some st) : Sim P E n s a w ⟨dst, .call c, ty, pos, aft, g⟩ st := by
  obtain ⟨pl, hH, hdf, hn, henv⟩ := R
  have hx := ev_c henv x
  have hrun : ∀ v, (Builtin.len_ #[t] ty #[a.eval x]).run P w = .ok v w → (execOp a.eval ⟨dst, .call c, ty, pos, aft, g⟩).run P w = .ok (.value v) w := fun v hv => by
    simp [execOp, resolve, hc, hts, hxs, invoke, builtin, hv]
  unfold actLen at h
  split at h
  · rename_i e _ _ _ ht
    obtain ⟨i1, d1, z1, g1, g2, g3, g4, g5, g6, g7, g8, g9⟩ := ofTV hP ht
    have g8 : d1 = .slice e := g8
    subst g8
    have hl : ∀ (ad : Option Addr) (len cap : Nat), a.eval x = .slice ad len cap → (Builtin.len_ #[t] ty #[a.eval x]).run P w = .ok (.int .i64 len) w := fun ad len cap hv => by
      simp [Builtin.len_, run_underlying g2, hv, goInt]
    split at h
    · rename_i hxc
      injection h with h
      subst h
      rw [hxc] at hx
      exact sim_val hH hdf hn henv hd rfl rfl (hrun _ (hl _ _ _ hx)) rfl
    · rename_i fr dd hxc
      injection h with h
      subst h
      rw [hxc] at hx
      obtain ⟨hrow, hx⟩ := hx
      obtain ⟨ad, c, xs, q, f, hv, _⟩ := reads_inv hx hrow
      exact sim_val hH hdf hn henv hd rfl rfl (hrun _ (hl _ _ _ hv)) rfl
    · rename_i id ver off len hxc
      rw [hxc] at hx
      obtain ⟨_, hx⟩ := hx
      split at h
      · rename_i ver' fr dd hg
        split at h
        · rename_i hver
          injection h with h
          subst h
          unfold oslR at hx
          rw [hg] at hx
          obtain ⟨ad, cap, hv, _⟩ := hx.2 hver
          exact sim_val hH hdf hn henv hd rfl rfl (hrun _ (hl _ _ _ hv)) rfl
        · cases h
      · cases h
    · cases h
  · rename_i ht
    obtain ⟨i1, d1, z1, g1, g2, g3, g4, g5, g6, g7, g8, g9⟩ := ofTV hP ht
    have g8 : d1 = .string := g8
    subst g8
    split at h
    · rename_i b hxc
      injection h with h
      subst h
      rw [hxc] at hx
      have hx : a.eval x = .string b := hx
      refine sim_val hH hdf hn henv hd rfl rfl (hrun (.int .i64 b.size) ?_) rfl
      simp [Builtin.len_, run_underlying g2, hx, goInt]
    · cases h
  · cases h
end
end Go.AM
