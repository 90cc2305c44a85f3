/- The abstract machine: a function is entered and left. -/
import Derived.Test.YtaicenafkjbnoaaAmT
set_option linter.unusedVariables false
set_option linter.unusedSimpArgs false
set_option linter.unusedSectionVars false
namespace Go.AM

/-! ### What is handed back -/
def lvC (H : Heap) (ls ms : List Nat) : C → C
  | .osl id ver off len =>
    if ls.contains id then .osl id ver off len else
    match lendIx 9000 ms id with
    | some k => if verAt H id = some ver then .osl k 0 off len else .bad
    | none =>
      match getA id H with
      | some (.arr ver' fr d) => if ver = ver' ∧ id < 8000 then .dsl fr (d.cut off len) else .bad
      | _ => .bad
  | .ptr id ver j o =>
    if ls.contains id then .ptr id ver j o else
    match lendIx 9000 ms id with
    | some k => if verAt H id = some ver then .ptr k 0 j o else .bad
    | none => .bad
  | .fn f caps => if caps.all (fun p => ls.contains p.1) then .fn f caps else .bad
  | c => c
def lvV (H : Heap) (ls ms : List Nat) : V → V
  | .c x => .c (lvC H ls ms x)
  | .agg xs => .agg (xs.map (lvC H ls ms))
def lvObj (H : Heap) (ls ms : List Nat) : Obj → Obj
  | .box v cs => .box v (cs.map (lvC H ls ms))
  | o => o
def ver0 : Obj → Obj
  | .box _ cs => .box 0 cs
  | .arr _ fr d => .arr 0 fr d
  | .dead _ => .dead 0
def lvLent (H : Heap) (ls ms : List Nat) : List Nat → Option Heap
  | [] => some []
  | k :: r =>
    match getA k H, lvLent H ls ms r with
    | some o, some l => some ((k, lvObj H ls ms o) :: l)
    | _, _ => none
def lvExp (H : Heap) (ls ms : List Nat) (k : Nat) : List Nat → Option Heap
  | [] => some []
  | id :: r =>
    match getA id H, lvExp H ls ms (k + 1) r with
    | some o, some l => if o.live = true ∧ id < 8000 then some ((k, ver0 (lvObj H ls ms o)) :: l) else none
    | _, _ => none
def lvH (H : Heap) (ls ms : List Nat) : Option Heap :=
  if nodupB ms && ls.all (fun k => decide (k < 9000)) then
    match lvLent H ls ms ls, lvExp H ls ms 9000 ms with
    | some l, some r => some (l ++ r)
    | _, _ => none
  else none
def resV (tv : TV) (s : St) : ResultVar → Option V
  | .tmp t => some (s.evV (.tmp t))
  | .cell a t =>
    match tv t, s.evC (.tmp a) with
    | some ty, .ptr id ver 0 o =>
      match getA id s.heap with
      | some (.box ver' cs) => if ver = ver' then loadCs ty ((cs.drop o).take ty.size) else none
      | _ => none
    | _, _ => none
def resVs (tv : TV) (s : St) : List ResultVar → Option (List V)
  | [] => some []
  | x :: r =>
    match resV tv s x, resVs tv s r with
    | some v, some l => some (v :: l)
    | _, _ => none
def lvRes (H : Heap) (ls ms : List Nat) : List V → LV
  | [v] => .v (lvV H ls ms v)
  | l => .tup (l.map (lvV H ls ms))

theorem getA_app {α : Type} (l r : List (Nat × α)) (k : Nat) : getA k (l ++ r) = (match getA k l with | some x => some x | none => getA k r) := by
  induction l with
  | nil => rfl
  | cons p l ih =>
    obtain ⟨j, x⟩ := p
    simp only [List.cons_append, getA]
    split
    · rfl
    · exact ih
theorem lvLent_get {H : Heap} {ls ms : List Nat} : ∀ {r : List Nat} {l : Heap}, lvLent H ls ms r = some l → (∀ k o', getA k l = some o' → k ∈ r ∧ ∃ o, getA k H = some o ∧ o' = lvObj H ls ms o) ∧ (∀ k ∈ r, ∃ o, getA k H = some o ∧ getA k l = some (lvObj H ls ms o))
  | [], l, h => by
    simp only [lvLent, Option.some.injEq] at h
    subst h
    exact ⟨fun k o' h => by simp [getA] at h, fun k h => by simp at h⟩
  | k :: r, l, h => by
    simp only [lvLent] at h
    split at h
    · rename_i o l' ho hl
      injection h with h
      subst h
      obtain ⟨h1, h2⟩ := lvLent_get hl
      refine ⟨fun k' o' hk => ?_, fun k' hk => ?_⟩
      · simp only [getA] at hk
        split at hk
        · rename_i e
          subst e
          injection hk with hk
          exact ⟨by simp, o, ho, hk.symm⟩
        · obtain ⟨g1, g2⟩ := h1 k' o' hk
          exact ⟨by simp [g1], g2⟩
      · simp only [List.mem_cons] at hk
        by_cases e : k = k'
        · subst e
          exact ⟨o, ho, by simp [getA]⟩
        · obtain ⟨o2, g1, g2⟩ := h2 k' (hk.resolve_left fun h => e h.symm)
          exact ⟨o2, g1, by simpa [getA, e] using g2⟩
    · cases h
theorem lvExp_get {H : Heap} {ls ms : List Nat} : ∀ {r : List Nat} {k : Nat} {l : Heap}, lvExp H ls ms k r = some l →
    (∀ j o', getA j l = some o' → k ≤ j ∧ ∃ id o, r[j - k]? = some id ∧ getA id H = some o ∧ o.live = true ∧ id < 8000 ∧ o' = ver0 (lvObj H ls ms o)) ∧
    (∀ (i id : Nat), r[i]? = some id → ∃ o, getA id H = some o ∧ o.live = true ∧ id < 8000 ∧ getA (k + i) l = some (ver0 (lvObj H ls ms o)))
  | [], k, l, h => by
    simp only [lvExp, Option.some.injEq] at h
    subst h
    exact ⟨fun k o' h => by simp [getA] at h, fun i id h => by simp at h⟩
  | id :: r, k, l, h => by
    simp only [lvExp] at h
    split at h
    · rename_i o l' ho hl
      split at h
      · rename_i hc
        injection h with h
        subst h
        obtain ⟨h1, h2⟩ := lvExp_get hl
        refine ⟨fun j o' hj => ?_, fun i id' hi => ?_⟩
        · simp only [getA] at hj
          split at hj
          · rename_i e
            subst e
            injection hj with hj
            exact ⟨Nat.le_refl _, id, o, by simp, ho, hc.1, hc.2, hj.symm⟩
          · obtain ⟨g1, id2, o2, g2, g3⟩ := h1 j o' hj
            refine ⟨by omega, id2, o2, ?_, g3⟩
            have : j - k = (j - (k + 1)) + 1 := by omega
            rw [this]
            simpa using g2
        · cases i with
          | zero =>
            simp at hi
            subst hi
            exact ⟨o, ho, hc.1, hc.2, by simp [getA]⟩
          | succ i =>
            obtain ⟨o2, g1, g2, g3, g4⟩ := h2 i id' (by simpa using hi)
            refine ⟨o2, g1, g2, g3, ?_⟩
            simp only [getA]
            rw [if_neg (by omega), ← g4]
            congr 1
            omega
      · cases h
    · cases h
theorem lvObj_live {H : Heap} {ls ms : List Nat} {o : Obj} : (lvObj H ls ms o).live = o.live ∧ (lvObj H ls ms o).ver = o.ver := by cases o <;> exact ⟨rfl, rfl⟩
theorem ver0_live {o : Obj} : (ver0 o).live = o.live := by cases o <;> rfl

section
variable {P : Program} {tv : TV} {E : Ent} {H : Heap} {pl : Pl} {w : World} {ls ms : List Nat} {ho : Heap}
structure Lv (E : Ent) (H : Heap) (pl : Pl) (w : World) (ls ms : List Nat) (ho : Heap) : Prop where
  hH : HR E H pl w
  lt : ∀ k ∈ ls, k < 9000
  dj : ∀ id ∈ ms, id ∉ ls
  hk : ∀ k o, getA k E.hin = some o → ms = [] ∨ k < 9000
  nd : ms.Nodup
  get : ∀ k o', getA k ho = some o' → (k ∈ ls ∧ ∃ o, getA k H = some o ∧ o' = lvObj H ls ms o) ∨ (k ∉ ls ∧ 9000 ≤ k ∧ ∃ id o, ms[k - 9000]? = some id ∧ getA id H = some o ∧ o.live = true ∧ id < 8000 ∧ o' = ver0 (lvObj H ls ms o))
  lent : ∀ k ∈ ls, ∃ o, getA k H = some o ∧ getA k ho = some (lvObj H ls ms o)
  exp : ∀ (i id : Nat), ms[i]? = some id → ∃ o, getA id H = some o ∧ o.live = true ∧ id < 8000 ∧ getA (9000 + i) ho = some (ver0 (lvObj H ls ms o))
theorem key_in : ∀ {l : Heap} {k : Nat}, k ∈ l.map (·.1) → ∃ o, getA k l = some o
  | [], k, h => by simp at h
  | (j, o) :: r, k, h => by
    simp only [List.map_cons, List.mem_cons] at h
    simp only [getA]
    split
    · exact ⟨o, rfl⟩
    · rename_i e
      exact key_in (h.resolve_left fun h => e h.symm)
theorem in_key : ∀ {l : Heap} {k : Nat} {o : Obj}, getA k l = some o → k ∈ l.map (·.1)
  | [], k, o, h => by simp [getA] at h
  | (j, x) :: r, k, o, h => by
    simp only [getA] at h
    split at h
    · rename_i e; simp [e]
    · have := in_key h
      simp only [List.map_cons, List.mem_cons]
      exact .inr this
theorem Lv.of (hH : HR E H pl w) (hls : ls = E.hin.map (·.1)) (h : lvH H ls ms = some ho) : Lv E H pl w ls ms ho := by
  unfold lvH at h
  split at h
  · rename_i hc
    simp only [Bool.and_eq_true, List.all_eq_true, decide_eq_true_eq] at hc
    split at h
    · rename_i l r hl hr
      injection h with h
      subst h
      obtain ⟨h1, h2⟩ := lvLent_get hl
      obtain ⟨h3, h4⟩ := lvExp_get hr
      have hlt : ∀ k ∈ ls, 8000 ≤ k ∧ k < 9000 := fun k hk => by
        refine ⟨?_, hc.2 k hk⟩
        rw [hls] at hk
        obtain ⟨o, ho⟩ := key_in hk
        exact hH.lentid k o ho
      refine ⟨hH, fun k hk => (hlt k hk).2, fun id hid hm => ?_, fun k o hk => .inr (hlt k (by rw [hls]; exact in_key hk)).2, nodupB_iff hc.1, fun k o' hk => ?_, fun k hk => ?_, fun i id hi => ?_⟩
      · obtain ⟨i, hi⟩ := List.getElem?_of_mem hid
        obtain ⟨o, _, _, g3, _⟩ := h4 i id hi
        have := (hlt id hm).1
        omega
      · rw [getA_app] at hk
        split at hk
        · rename_i x hx
          injection hk with hk
          subst hk
          exact .inl (h1 k x hx)
        · obtain ⟨g1, id, o, g2, g3, g4, g5, g6⟩ := h3 k o' hk
          refine .inr ⟨fun hm => ?_, g1, id, o, g2, g3, g4, g5, g6⟩
          have := hlt k hm
          omega
      · obtain ⟨o, g1, g2⟩ := h2 k hk
        exact ⟨o, g1, by rw [getA_app, g2]⟩
      · obtain ⟨o, g1, g2, g3, g4⟩ := h4 i id hi
        refine ⟨o, g1, g2, g3, ?_⟩
        rw [getA_app]
        cases hx : getA (9000 + i) l with
        | none => exact g4
        | some x =>
          have := hlt _ (h1 _ x hx).1
          omega
    · cases h
  · cases h
def lvPl (pl : Pl) (ms : List Nat) : Pl := ⟨fun k => if 9000 ≤ k then (ms[k - 9000]?).bind pl.blk else pl.blk k, fun k => if 9000 ≤ k then ((ms[k - 9000]?).map pl.cap).getD 0 else pl.cap k⟩
theorem lvPl_old {k : Nat} (h : k < 9000) : (lvPl pl ms).blk k = pl.blk k ∧ (lvPl pl ms).cap k = pl.cap k := by simp only [lvPl]; rw [if_neg (by omega), if_neg (by omega)]; exact ⟨rfl, rfl⟩
theorem lvPl_new {k id : Nat} (h : 9000 ≤ k) (hm : ms[k - 9000]? = some id) : (lvPl pl ms).blk k = pl.blk id ∧ (lvPl pl ms).cap k = pl.cap id := by simp [lvPl, h, hm]
/-- Every object that is handed back was one. -/
theorem Lv.src (L : Lv E H pl w ls ms ho) {k : Nat} {o' : Obj} (h : getA k ho = some o') : ∃ id o, getA id H = some o ∧ o'.live = o.live ∧ (lvPl pl ms).blk k = pl.blk id ∧ (lvPl pl ms).cap k = pl.cap id ∧ (o' = lvObj H ls ms o ∨ o' = ver0 (lvObj H ls ms o)) ∧
    ((k ∈ ls ∧ id = k) ∨ (9000 ≤ k ∧ ms[k - 9000]? = some id ∧ id < 8000)) := by
  rcases L.get k o' h with ⟨h1, o, h2, rfl⟩ | ⟨_, h1, id, o, h2, h3, h4, h5, rfl⟩
  · have := lvPl_old (pl := pl) (ms := ms) (L.lt k h1)
    exact ⟨k, o, h2, lvObj_live.1, this.1, this.2, .inl rfl, .inl ⟨h1, rfl⟩⟩
  · have := lvPl_new (pl := pl) h1 h2
    exact ⟨id, o, h3, ver0_live.trans lvObj_live.1, this.1, this.2, .inr rfl, .inr ⟨h1, h2, h5⟩⟩
theorem Lv.zone (L : Lv E H pl w ls ms ho) {fr : Bool} {b : Nat} (h : ¬ zone E.b H pl fr b) : ¬ AM.zone E.b ho (lvPl pl ms) fr b := by
  rintro (⟨k, o', h1, h2, h3⟩ | h1)
  · obtain ⟨id, o, g1, g2, g3, _⟩ := L.src h1
    exact h (.inl ⟨id, o, g1, g2 ▸ h2, g3 ▸ h3⟩)
  · exact h (.inr h1)
theorem Lv.ptr_old (L : Lv E H pl w ls ms ho) {id ver j o : Nat} {v : Value} (hm : id ∈ ls) (h : ptrR H pl id ver j o v) : ptrR ho (lvPl pl ms) id ver j o v := by
  obtain ⟨ob, h1, h2⟩ := L.lent id hm
  have hp := lvPl_old (pl := pl) (ms := ms) (L.lt id hm)
  unfold ptrR at h ⊢
  rw [h1] at h
  rw [h2]
  cases ob
  · simp only [lvObj]; rw [hp.1]; exact h
  · simp only [lvObj]; rw [hp.1]; exact h
  · exact h
theorem Lv.ptr_new (L : Lv E H pl w ls ms ho) {id k ver j o : Nat} {v : Value} (hk : lendIx 9000 ms id = some k) (hv : verAt H id = some ver) (h : ptrR H pl id ver j o v) : ptrR ho (lvPl pl ms) k 0 j o v := by
  obtain ⟨h1, h2⟩ := lendIx_some hk
  obtain ⟨ob, g1, g2, g3, g4⟩ := L.exp _ _ h2
  have e : 9000 + (k - 9000) = k := by omega
  rw [e] at g4
  have hp := lvPl_new (pl := pl) h1 h2
  unfold ptrR at h ⊢
  rw [g1] at h
  rw [g4]
  simp only [verAt, g1, Option.map_some, Option.some.injEq] at hv
  cases ob
  · exact ⟨Nat.le_refl _, fun _ => by rw [hp.1]; exact h.2 hv.symm⟩
  · exact ⟨Nat.le_refl _, fun _ => by rw [hp.1]; exact h.2 hv.symm⟩
  · simp [Obj.live] at g2
theorem Lv.cr (L : Lv E H pl w ls ms ho) {c : C} {v : Value} (h : CR E.b H pl w c v) : CR E.b ho (lvPl pl ms) w (lvC H ls ms c) v := by
  cases c with
  | dsl fr d => exact ⟨h.1, h.2.mono fun b _ hz => ⟨L.zone hz, rfl⟩⟩
  | dp fr ds =>
    obtain ⟨p, hv, hd⟩ := h
    refine ⟨p, hv, fun o e ho => ?_⟩
    obtain ⟨u, hu, hz, hr⟩ := hd o e ho
    exact ⟨u, hu, L.zone hz, hr.mono fun b _ hz => ⟨L.zone hz, rfl⟩⟩
  | osl id ver off len =>
    simp only [lvC]
    split
    · rename_i hc
      have hm : id ∈ ls := by simpa using hc
      refine ⟨h.1, ?_⟩
      obtain ⟨ob, h1, h2⟩ := L.lent id hm
      have hp := lvPl_old (pl := pl) (ms := ms) (L.lt id hm)
      have h3 := h.2
      unfold oslR at h3 ⊢
      rw [h1] at h3
      rw [h2]
      cases ob
      · exact h3
      · simp only [lvObj]; rw [hp.1, hp.2]; exact h3
      · exact h3
    · rename_i hnl
      split
      · rename_i k hk
        split
        · rename_i hv
          refine ⟨h.1, ?_⟩
          obtain ⟨h1, h2⟩ := lendIx_some hk
          obtain ⟨ob, g1, g2, g3, g4⟩ := L.exp _ _ h2
          have e : 9000 + (k - 9000) = k := by omega
          rw [e] at g4
          have hp := lvPl_new (pl := pl) h1 h2
          have h3 := h.2
          unfold oslR at h3 ⊢
          rw [g1] at h3
          rw [g4]
          simp only [verAt, g1, Option.map_some, Option.some.injEq] at hv
          cases ob
          · rename_i v' _
            obtain rfl : v' = ver := hv
            exact absurd h3 (Nat.lt_irrefl _)
          · exact ⟨Nat.le_refl _, fun _ => by rw [hp.1, hp.2]; exact h3.2 hv.symm⟩
          · simp [Obj.live] at g2
        · trivial
      · rename_i hk
        split
        · rename_i ver' fr d hg
          split
          · rename_i hc
            obtain ⟨rfl, hid⟩ := hc
            have := arr_reads L.hH hg h.2 (AM.zone E.b ho (lvPl pl ms) fr) (fun b hb => ?_) (fun b _ hz => L.zone hz)
            · exact ⟨this.1, this.2.2⟩
            · rintro (⟨k, o', h1, h2, h3⟩ | h1)
              · obtain ⟨id', o, g1, g2, g3, _, _, g4⟩ := L.src h1
                have := L.hH.inj id id' _ o b hg rfl g1 (g2 ▸ h2) hb (g3 ▸ h3)
                subst this
                rcases g4 with ⟨g4, rfl⟩ | ⟨_, g4, _⟩
                · exact hnl (by simpa using g4)
                · exact lendIx_none hk (List.mem_of_getElem? g4)
              · rcases (L.hH.blk id _ b hg rfl hb).2 with h2 | ⟨oi, h2, h3⟩
                · rcases h1 with ⟨_, h1⟩ | h1
                  · simp only [Ent.b] at h1; omega
                  · have := L.hH.hX b h1
                    omega
                · have := L.hH.lentid id oi h2
                  omega
          · trivial
        · trivial
  | ptr id ver j o =>
    simp only [lvC]
    split
    · rename_i hc
      exact ⟨h.1, L.ptr_old (by simpa using hc) h.2⟩
    · split
      · rename_i k hk
        split
        · rename_i hv
          exact ⟨h.1, L.ptr_new hk hv h.2⟩
        · trivial
      · trivial
  | fn f caps =>
    simp only [lvC]
    split
    · rename_i hc
      obtain ⟨cs, hv, hlen, hcs⟩ := h
      refine ⟨cs, hv, hlen, fun i id ver hi => ?_⟩
      obtain ⟨u, hu, hp⟩ := hcs i id ver hi
      have := List.all_eq_true.1 hc _ (List.mem_of_getElem? hi)
      exact ⟨u, hu, L.ptr_old (by simpa using this) hp⟩
    · trivial
  | _ => exact h
theorem Lv.vr (L : Lv E H pl w ls ms ho) {x : V} {v : Value} (h : VR E.b H pl w x v) : VR E.b ho (lvPl pl ms) w (lvV H ls ms x) v := by
  cases x with
  | c c => exact L.cr h
  | agg xs =>
    obtain ⟨cs, hv, hl, hcs⟩ := h
    refine ⟨cs, hv, by simp [hl], fun i c hi => ?_⟩
    rw [List.getElem?_map, Option.map_eq_some_iff] at hi
    obtain ⟨c', h1, rfl⟩ := hi
    obtain ⟨u, hu, hc⟩ := hcs i c' h1
    exact ⟨u, hu, L.cr hc⟩
theorem Lv.objR (L : Lv E H pl w ls ms ho) {id k : Nat} {o o' : Obj} (hb : (lvPl pl ms).blk k = pl.blk id) (hc : (lvPl pl ms).cap k = pl.cap id) (ho' : o' = lvObj H ls ms o ∨ o' = ver0 (lvObj H ls ms o)) (h : ObjR E.b H pl w id o) : ObjR E.b ho (lvPl pl ms) w k o' := by
  cases o with
  | box ver cs =>
    obtain ⟨b, vs, T, g1, g2, g3, g4⟩ := h
    have : ∃ v', o' = .box v' (cs.map (lvC H ls ms)) := by rcases ho' with rfl | rfl <;> exact ⟨_, rfl⟩
    obtain ⟨v', rfl⟩ := this
    refine ⟨b, vs, T, hb.trans g1, g2, by simp [g3], fun i c hi => ?_⟩
    rw [List.getElem?_map, Option.map_eq_some_iff] at hi
    obtain ⟨c', h1, rfl⟩ := hi
    obtain ⟨u, hu, hx⟩ := g4 i c' h1
    exact ⟨u, hu, L.cr hx⟩
  | arr ver fr d =>
    obtain ⟨es, xs, g1, g2, g3, g4, g5⟩ := h
    have : ∃ v', o' = .arr v' fr d := by rcases ho' with rfl | rfl <;> exact ⟨_, rfl⟩
    obtain ⟨v', rfl⟩ := this
    refine ⟨es, xs, g1, g2, g3, by rw [hb]; exact g4, fun b hbb => ?_⟩
    rw [hb] at hbb
    obtain ⟨vs, T, k1, k2, k3, k4⟩ := g5 b hbb
    exact ⟨vs, T, k1, by rw [hc]; exact k2, by rw [hc]; exact k3, fun j o e he => let ⟨u, hu, hr⟩ := k4 j o e he; ⟨u, hu, hr.mono fun b _ hz => ⟨L.zone hz, rfl⟩⟩⟩
  | dead ver => rcases ho' with rfl | rfl <;> trivial
theorem Lv.hr (L : Lv E H pl w ls ms ho) : HR E ho (lvPl pl ms) w := by
  have hH := L.hH
  refine ⟨hH.os, hH.tape, hH.output, hH.size, hH.frame, fun k o' b h1 h2 h3 => ?_, fun k k' o o' b h1 h2 h3 h4 h5 h6 => ?_, hH.hX, hH.hXl, hH.lentid, fun k o' oi h1 h2 => ?_, fun k o' h1 => ?_⟩
  · obtain ⟨id, o, g1, g2, g3, _, _, g4⟩ := L.src h1
    have := hH.blk id o b g1 (g2 ▸ h2) (g3 ▸ h3)
    refine ⟨this.1, this.2.imp _root_.id fun ⟨oi, k1, k2⟩ => ?_⟩
    rcases g4 with ⟨_, rfl⟩ | ⟨_, _, g4⟩
    · exact ⟨oi, k1, k2⟩
    · have := hH.lentid id oi k1
      omega
  · obtain ⟨id, o1, g1, g2, g3, _, _, g4⟩ := L.src h1
    obtain ⟨id', o2, k1, k2, k3, _, _, k4⟩ := L.src h3
    have := hH.inj id id' o1 o2 b g1 (g2 ▸ h2) k1 (k2 ▸ h4) (g3 ▸ h5) (k3 ▸ h6)
    subst this
    rcases g4 with ⟨g4, e1⟩ | ⟨g4, g5, g6⟩
    · rcases k4 with ⟨k4, e2⟩ | ⟨k4, k5, k6⟩
      · exact e1.symm.trans e2
      · exact (L.dj _ (List.mem_of_getElem? k5) (e1 ▸ g4)).elim
    · rcases k4 with ⟨k4, e2⟩ | ⟨k4, k5, k6⟩
      · exact (L.dj _ (List.mem_of_getElem? g5) (e2 ▸ k4)).elim
      · have a1 := lendIx_of (k := 9000) L.nd g5
        have a2 := lendIx_of (k := 9000) L.nd k5
        have a3 := Option.some.inj (a1.symm.trans a2)
        omega
  · rcases L.get k o' h1 with ⟨hm, o, g1, rfl⟩ | ⟨hn, h9, id, o, g1, _⟩
    · have ht := hH.lent k o oi g1 h2
      have hp := lvPl_old (pl := pl) (ms := ms) (L.lt k hm)
      rcases ht with ht | ht
      · left
        rw [lvObj_live.2]; exact ht
      · right
        cases oi <;> cases o <;> simp only [lvObj] at ht ⊢ <;> first | exact ht.elim | exact ht | (rw [hp.1, hp.2]; exact ht) | (rw [hp.1]; exact ht)
    · rcases L.hk k oi h2 with h | h
      · rw [h] at g1; simp at g1
      · omega
  · obtain ⟨id, o, g1, g2, g3, g4, g5, _⟩ := L.src h1
    exact L.objR g3 g4 g5 (hH.objs id o g1)
end

/-! ### The state, tidied up -/
def lvLV (H : Heap) (ls ms : List Nat) : LV → LV
  | .v x => .v (lvV H ls ms x)
  | .tup xs => .tup (xs.map (lvV H ls ms))
def keepE (l : List Nat) (env : List (Nat × LV)) : List (Nat × LV) :=
  match l with
  | [] => []
  | t :: r =>
    match getA t env with
    | some x => (t, x) :: keepE r env
    | none => keepE r env
theorem keepE_get (l : List Nat) (env : List (Nat × LV)) (t : Nat) (lv : LV) (h : getA t (keepE l env) = some lv) : getA t env = some lv := by
  induction l with
  | nil => simp [keepE, getA] at h
  | cons x r ih =>
    simp only [keepE] at h
    split at h
    · rename_i y hy
      simp only [getA] at h
      split at h
      · rename_i e
        injection h with h
        rw [← e, ← h]; exact hy
      · exact ih h
    · exact ih h
/-- Some temporaries and some objects are kept; what is read of the other ones is data from now on. -/
def tidy (ts ls : List Nat) (s : St) : Option St :=
  if ls.all (fun k => decide (k < 9000)) then
    match lvLent s.heap ls [] ls with
    | some H => some ⟨(keepE ts s.env).map fun p => (p.1, lvLV s.heap ls [] p.2), H⟩
    | none => none
  else none
theorem getA_map {α β : Type} (f : α → β) : ∀ (l : List (Nat × α)) (k : Nat), getA k (l.map fun p => (p.1, f p.2)) = (getA k l).map f
  | [], k => rfl
  | (j, x) :: r, k => by
    simp only [List.map_cons, getA]
    split
    · rfl
    · exact getA_map f r k
theorem Rel.tidy {E : Ent} {n : Nat} {s s0 : St} {a : Act} {w : World} {ts ls : List Nat} (R : Rel E n s a w) (h : tidy ts ls s = some s0) : Rel E n s0 a w := by
  obtain ⟨pl, hH, hdf, hn, henv⟩ := R
  unfold AM.tidy at h
  split at h
  · rename_i hc
    simp only [List.all_eq_true, decide_eq_true_eq] at hc
    split at h
    · rename_i H hl
      injection h with h
      subst h
      obtain ⟨h1, h2⟩ := lvLent_get hl
      have L : Lv E s.heap pl w ls [] H := ⟨hH, hc, fun id h => by simp at h, fun _ _ _ => .inl rfl, .nil, fun k o' hk => .inl (h1 k o' hk), h2, fun i id h => by simp at h⟩
      refine ⟨lvPl pl [], L.hr, hdf, hn, fun t lv ht => ?_⟩
      rw [getA_map (lvLV s.heap ls [])] at ht
      obtain ⟨x, hx, rfl⟩ := Option.map_eq_some_iff.1 ht
      have := henv t x (keepE_get ts s.env t x hx)
      cases x with
      | v x => exact L.vr this
      | tup xs =>
        obtain ⟨cs, hv, hlen, hcs⟩ := this
        refine ⟨cs, hv, by simp [hlen], fun i c hi => ?_⟩
        rw [List.getElem?_map, Option.map_eq_some_iff] at hi
        obtain ⟨c', g1, rfl⟩ := hi
        obtain ⟨u, hu, hr⟩ := hcs i c' g1
        exact ⟨u, hu, L.vr hr⟩
    · cases h
  · cases h

/-! ### Results -/
section
variable {P : Program} {tv : TV} {E : Ent} {n : Nat} {s : St} {a : Act} {w : World}
def resultOf (tmps : Array Value) : ResultVar → Sem Value
  | .tmp t => pure (tmps.getD t undef)
  | .cell a t => do loadVar t (← asAddr (tmps.getD a undef))
theorem run_res (hP : TVOk P tv) {pl : Pl} (hH : HR E s.heap pl w) (henv : ∀ t lv, getA t s.env = some lv → LVR E.b s.heap pl w lv (a.tmps.getD t undef)) {x : ResultVar} {v : V} (h : resV tv s x = some v) :
    ∃ u, (resultOf a.tmps x).run P w = .ok u w ∧ VR E.b s.heap pl w v u := by
  cases x with
  | tmp t =>
    simp only [resV, Option.some.injEq] at h
    subst h
    exact ⟨_, rfl, ev_v henv (.tmp t)⟩
  | cell c t =>
    simp only [resV] at h
    split at h
    · rename_i ty id ver o ht hc
      split at h
      · rename_i ver' cs hg
        split at h
        · rename_i hver
          have hp := ev_c henv (.tmp c)
          rw [hc] at hp
          obtain ⟨_, hp⟩ := hp
          unfold ptrR at hp
          rw [hg] at hp
          obtain ⟨_, b, hb, hpv⟩ := hp.2 hver
          obtain ⟨b', vs, T, k1, k2, k3, k4⟩ := hH.objs id _ hg
          rw [hb] at k1
          injection k1 with k1
          subst k1
          obtain ⟨u, hu, hr⟩ := load_sim (s := s) hP ht (ad := ⟨b, o, none⟩) (fun k c hk => by
            rw [List.getElem?_take] at hk
            split at hk
            · rw [List.getElem?_drop] at hk
              obtain ⟨u, hu, hr⟩ := k4 _ c hk
              exact ⟨u, by rw [add_off, cell_of k2]; exact hu, hr⟩
            · cases hk) h
          refine ⟨u, ?_, hr⟩
          have hpv' : a.tmps.getD c undef = .pointer (some ⟨b, o, none⟩) := hpv
          simp only [resultOf, hpv', asAddr, Sem.run_bind, Sem.run_pure, Result.andThen_ok, hu]
        · cases h
      · cases h
    · cases h
theorem run_ress (hP : TVOk P tv) {pl : Pl} (hH : HR E s.heap pl w) (henv : ∀ t lv, getA t s.env = some lv → LVR E.b s.heap pl w lv (a.tmps.getD t undef)) : ∀ {l : List ResultVar} {vs : List V}, resVs tv s l = some vs →
    ∃ us : List Value, (l.mapM (resultOf a.tmps)).run P w = .ok us w ∧ us.length = vs.length ∧ ∀ (i : Nat) x, vs[i]? = some x → ∃ u, us[i]? = some u ∧ VR E.b s.heap pl w x u
  | [], vs, h => by
    simp only [resVs, Option.some.injEq] at h
    subst h
    exact ⟨[], by simp, rfl, fun i x h => by simp at h⟩
  | x :: r, vs, h => by
    simp only [resVs] at h
    split at h
    · rename_i v l hv hl
      injection h with h
      subst h
      obtain ⟨u, h1, h2⟩ := run_res hP hH henv hv
      obtain ⟨us, h3, h4, h5⟩ := run_ress hP hH henv hl
      refine ⟨u :: us, by simp [List.mapM_cons, h1, h3], by simp [h4], fun i y hi => ?_⟩
      cases i with
      | zero => simp at hi; subst hi; exact ⟨u, by simp, h2⟩
      | succ i => simpa using h5 i y (by simpa using hi)
    · cases h
/-- What the function hands back. -/
def Leaves (tv : TV) (results : Array ResultVar) (hin : Heap) (s : St) (r : LV) (ho : Heap) : Prop :=
  ∃ ms vs, resVs tv s results.toList = some vs ∧ lvH s.heap (hin.map (·.1)) ms = some ho ∧ r = lvRes s.heap (hin.map (·.1)) ms vs
theorem run_results (hP : TVOk P tv) {fn : Func} {hin : Heap} {r : LV} {ho : Heap} (h : Leaves tv fn.results hin s r ho) (hE : E.hin = hin) (R : Rel E n s a w) :
    a.defers = [] ∧ ∃ v pl', (results fn a.tmps).run P w = .ok v w ∧ HR E ho pl' w ∧ LVR E.b ho pl' w r v := by
  obtain ⟨pl, hH, hdf, hn, henv⟩ := R
  obtain ⟨ms, vs, h1, h2, rfl⟩ := h
  have L := Lv.of hH (by rw [hE]) h2
  obtain ⟨us, h3, h4, h5⟩ := run_ress hP hH henv h1
  have hm : (fn.results.mapM (resultOf a.tmps)).run P w = .ok us.toArray w := by
    rw [Array.mapM_eq_mapM_toList]
    rw [Sem.run_map, h3]
    rfl
  have hres : ∃ v, (results fn a.tmps).run P w = .ok v w ∧ v = if h : us.toArray.size = 1 then us.toArray[0] else .tuple us.toArray := by
    refine ⟨_, ?_, rfl⟩
    unfold results
    rw [Sem.run_bind]
    have e : ∀ g : ResultVar → Sem Value, (∀ x, g x = resultOf a.tmps x) → fn.results.mapM g = fn.results.mapM (resultOf a.tmps) := fun g hg => by rw [funext hg]
    rw [e]
    · rw [hm]
      rfl
    · intro x
      cases x <;> rfl
  obtain ⟨v, hv, hvv⟩ := hres
  refine ⟨hdf, v, lvPl pl ms, hv, L.hr, ?_⟩
  subst hvv
  match vs, h4, h5 with
  | [x], h4, h5 =>
    obtain ⟨u, hu, hr⟩ := h5 0 x rfl
    match us, h4, hu with
    | [u'], _, hu =>
      simp at hu
      subst hu
      exact L.vr hr
  | [], h4, h5 =>
    match us, h4 with
    | [], _ => exact ⟨#[], rfl, rfl, fun i c h => by simp at h⟩
  | x :: y :: l, h4, h5 =>
    rw [dif_neg (by simp [h4])]
    refine ⟨us.toArray, rfl, by simp [h4], fun i c hi => ?_⟩
    rw [List.getElem?_map, Option.map_eq_some_iff] at hi
    obtain ⟨c', g1, rfl⟩ := hi
    obtain ⟨u, hu, hr⟩ := h5 i c' g1
    exact ⟨u, by simpa using hu, L.vr hr⟩
def envOf (k : Nat) : List V → List (Nat × LV)
  | [] => []
  | x :: r => (k, .v x) :: envOf (k + 1) r
theorem envOf_get : ∀ {l : List V} {k t : Nat} {lv : LV}, getA t (envOf k l) = some lv → k ≤ t ∧ ∃ x, l[t - k]? = some x ∧ lv = .v x
  | [], k, t, lv, h => by simp [envOf, getA] at h
  | x :: r, k, t, lv, h => by
    simp only [envOf, getA] at h
    split at h
    · rename_i e
      subst e
      injection h with h
      exact ⟨Nat.le_refl _, x, by simp, h.symm⟩
    · obtain ⟨h1, y, h2, h3⟩ := envOf_get h
      refine ⟨by omega, y, ?_, h3⟩
      have : t - k = (t - (k + 1)) + 1 := by omega
      rw [this]
      simpa using h2
def DoneQ (tv : TV) (results : Array ResultVar) (hin : Heap) (post : LV → Heap → Prop) : Exit → St → Prop
  | .normal, s | .ret, s => ∃ r ho, Leaves tv results hin s r ho ∧ post r ho
  | _, _ => False
/-- A function's contract, from its code. -/
theorem CallsA.of {f : FuncId} {fn : Func} {c : Code} {args : List V} {hin : Heap} {post : LV → Heap → Prop} (hP : TVOk P tv) (hf : P.funcs[f]? = some fn) (hb : fn.body = some c) (hn : (fn.name == "runtime.NumGoroutine") = false)
    (hl : args.length ≤ fn.ntmps) (h : WP P fn.ntmps c (DoneQ tv fn.results hin post) ⟨envOf 0 args, hin⟩) : CallsA P f args hin post := by
  refine ⟨⟨fn, hf, by rw [hb]; rfl, hn⟩, fun w pl X vs hH hvs hargs => ?_⟩
  refine calls_of_wp hf hb ?_
  have R : Rel ⟨w, pl, hin, X⟩ fn.ntmps ⟨envOf 0 args, hin⟩ { tmps := vs ++ Array.replicate (fn.ntmps - vs.size) undef, defers := [] } w := by
    refine ⟨pl, hH, rfl, by simp; omega, fun t lv ht => ?_⟩
    obtain ⟨_, x, h1, rfl⟩ := envOf_get ht
    simp only [Nat.sub_zero] at h1
    obtain ⟨u, hu, hr⟩ := hargs t x h1
    have hlt := (Array.getElem?_eq_some_iff.1 hu).1
    have : (vs ++ Array.replicate (fn.ntmps - vs.size) undef).getD t undef = u := by
      rw [Array.getD_eq_getD_getElem?, Array.getElem?_append_left hlt, hu]
      rfl
    show VR _ _ _ _ _ _
    simp only
    rw [this]
    exact hr
  refine wp_mono (h ⟨w, pl, hin, X⟩ _ w R) fun e a' w' ⟨s', h1, R'⟩ => ?_
  cases e <;> try exact h1.elim
  all_goals
    obtain ⟨r, ho, h2, h3⟩ := h1
    obtain ⟨hdf, v, pl', h4, h5, h6⟩ := run_results (fn := fn) hP h2 rfl R'
    exact ⟨hdf, v, h4, v, r, ho, pl', rfl, h3, h5, h6⟩
end
end Go.AM
