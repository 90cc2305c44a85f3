/- The abstract machine: what a call is handed, and what comes back. -/
import Derived.Test.YtaicenafkjbnoaaAmM
set_option linter.unusedVariables false
set_option linter.unusedSimpArgs false
set_option linter.unusedSectionVars false
namespace Go.AM

/-! ### What is lent -/
def lendIx (k : Nat) : List Nat → Nat → Option Nat
  | [], _ => none
  | x :: r, id => if x = id then some k else lendIx (k + 1) r id
def verAt (H : Heap) (id : Nat) : Option Nat := (getA id H).map Obj.ver
def trCaps (H : Heap) (m : List Nat) : List (Nat × Nat) → Option (List (Nat × Nat))
  | [] => some []
  | (id, ver) :: r =>
    match lendIx 8000 m id, trCaps H m r with
    | some k, some l => if verAt H id = some ver then some ((k, 0) :: l) else none
    | _, _ => none
def trC (H : Heap) (m bvs : List Nat) : C → C
  | .dsl _ d => .dsl false d
  | .dp _ ds => .dp false ds
  | .osl id ver off len =>
    match lendIx 8000 m id with
    | some k => if verAt H id = some ver then .osl k 0 off len else .bad
    | none =>
      match getA id H with
      | some (.arr ver' _ d) => if ver = ver' ∧ bvs.contains id = true then .dsl false (d.cut off len) else .bad
      | _ => .bad
  | .ptr id ver j o =>
    match lendIx 8000 m id with
    | some k => if verAt H id = some ver then .ptr k 0 j o else .bad
    | none => .bad
  | .fn f caps =>
    match trCaps H m caps with
    | some l => .fn f l
    | none => .bad
  | c => c
def trV (H : Heap) (m bvs : List Nat) : V → V
  | .c x => .c (trC H m bvs x)
  | .agg xs => .agg (xs.map (trC H m bvs))
def trObj (H : Heap) (m bvs : List Nat) : Obj → Obj
  | .box _ cs => .box 0 (cs.map (trC H m bvs))
  | .arr _ _ d => .arr 0 d.flatRow d
  | .dead _ => .dead 0
def hinOf (H : Heap) (m bvs : List Nat) (k : Nat) : List Nat → Heap
  | [] => []
  | id :: r => (k, trObj H m bvs ((getA id H).getD (.dead 0))) :: hinOf H m bvs (k + 1) r
def plIn (pl : Pl) (m : List Nat) : Pl :=
  ⟨fun k => if 8000 ≤ k then (m[k - 8000]?).bind pl.blk else none, fun k => if 8000 ≤ k then ((m[k - 8000]?).map pl.cap).getD 0 else 0⟩
def XIn (E : Ent) (H : Heap) (pl : Pl) (m bvs : List Nat) (b : Nat) : Prop :=
  E.X b ∨ ∃ id o, getA id H = some o ∧ o.live = true ∧ id ∉ m ∧ id ∉ bvs ∧ pl.blk id = some b

theorem lendIx_some : ∀ {m : List Nat} {k id j : Nat}, lendIx k m id = some j → k ≤ j ∧ m[j - k]? = some id
  | [], k, id, j, h => by simp [lendIx] at h
  | x :: r, k, id, j, h => by
    simp only [lendIx] at h
    split at h
    · rename_i e
      injection h with h
      subst h
      simp [e]
    · obtain ⟨h1, h2⟩ := lendIx_some h
      refine ⟨by omega, ?_⟩
      have : j - k = (j - (k + 1)) + 1 := by omega
      rw [this]
      simpa using h2
theorem lendIx_none : ∀ {m : List Nat} {k id : Nat}, lendIx k m id = none → id ∉ m
  | [], k, id, h => by simp
  | x :: r, k, id, h => by
    simp only [lendIx] at h
    split at h
    · cases h
    · rename_i e
      have := lendIx_none h
      simp only [List.mem_cons, not_or]
      exact ⟨fun h => e h.symm, this⟩
theorem lendIx_of : ∀ {m : List Nat} {k i id : Nat}, m.Nodup → m[i]? = some id → lendIx k m id = some (k + i)
  | [], k, i, id, _, h => by simp at h
  | x :: r, k, 0, id, _, h => by
    simp at h
    simp [lendIx, h]
  | x :: r, k, i + 1, id, hn, h => by
    have h : r[i]? = some id := by simpa using h
    rw [List.nodup_cons] at hn
    have hne : x ≠ id := fun e => hn.1 (e ▸ List.mem_of_getElem? h)
    simp only [lendIx, if_neg hne]
    rw [lendIx_of hn.2 h]
    congr 1
    omega
theorem nodupB_iff : ∀ {l : List Nat}, nodupB l = true → l.Nodup
  | [], _ => .nil
  | x :: r, h => by
    simp only [nodupB, Bool.and_eq_true, Bool.not_eq_true', List.contains_eq_mem, decide_eq_false_iff_not] at h
    exact List.nodup_cons.2 ⟨h.1, nodupB_iff h.2⟩
theorem hinOf_some {H : Heap} {m bvs : List Nat} : ∀ {r : List Nat} {k j : Nat} {o' : Obj}, getA j (hinOf H m bvs k r) = some o' → k ≤ j ∧ ∃ id, r[j - k]? = some id ∧ o' = trObj H m bvs ((getA id H).getD (.dead 0))
  | [], k, j, o', h => by simp [hinOf, getA] at h
  | x :: r, k, j, o', h => by
    simp only [hinOf, getA] at h
    split at h
    · rename_i e
      injection h with h
      subst e
      exact ⟨Nat.le_refl _, x, by simp, h.symm⟩
    · obtain ⟨h1, id, h2, h3⟩ := hinOf_some h
      refine ⟨by omega, id, ?_, h3⟩
      have : j - k = (j - (k + 1)) + 1 := by omega
      rw [this]
      simpa using h2
theorem hinOf_of {H : Heap} {m bvs : List Nat} : ∀ {r : List Nat} {k i id : Nat}, r[i]? = some id → getA (k + i) (hinOf H m bvs k r) = some (trObj H m bvs ((getA id H).getD (.dead 0)))
  | [], k, i, id, h => by simp at h
  | x :: r, k, 0, id, h => by
    simp at h
    simp [hinOf, getA, h]
  | x :: r, k, i + 1, id, h => by
    have h : r[i]? = some id := by simpa using h
    have := hinOf_of (H := H) (m := m) (bvs := bvs) (k := k + 1) h
    simp only [hinOf, getA]
    rw [if_neg (by omega)]
    rw [← this]
    congr 1
    omega

/-! ### Going in -/
structure Lend (H : Heap) (m bvs : List Nat) (id8 : Nat) : Prop where
  nd : m.Nodup
  len : m.length ≤ 1000
  live : ∀ id ∈ m, ∃ o, getA id H = some o ∧ o.live = true
  bv : ∀ id ∈ bvs, id ∉ m
  apart : ∀ id ∈ m, ¬ (id8 ≤ id ∧ id < id8 + 8)
def lendOk (H : Heap) (m bvs : List Nat) (id8 : Nat) : Bool :=
  nodupB m && decide (m.length ≤ 1000) && m.all (fun id => ((getA id H).map Obj.live).getD false && !(decide (id8 ≤ id) && decide (id < id8 + 8))) && bvs.all (fun id => !m.contains id)
theorem Lend.of {H : Heap} {m bvs : List Nat} {id8 : Nat} (h : lendOk H m bvs id8 = true) : Lend H m bvs id8 := by
  simp only [lendOk, Bool.and_eq_true, decide_eq_true_eq, List.all_eq_true, Bool.not_eq_true', List.contains_eq_mem, decide_eq_false_iff_not] at h
  obtain ⟨⟨⟨h1, h2⟩, h3⟩, h4⟩ := h
  refine ⟨nodupB_iff h1, h2, fun id hid => ?_, h4, fun id hid hc => ?_⟩
  · have := (h3 id hid).1
    cases hg : getA id H with
    | none => simp [hg] at this
    | some o => exact ⟨o, rfl, by simpa [hg] using this⟩
  · have := (h3 id hid).2
    simp [hc.1, hc.2] at this

section
variable {E : Ent} {H : Heap} {pl : Pl} {w : World} {m bvs : List Nat} {id8 : Nat}
def entIn (E : Ent) (H : Heap) (pl : Pl) (w : World) (m bvs : List Nat) : Ent := ⟨w, plIn pl m, hinOf H m bvs 8000 m, XIn E H pl m bvs⟩

theorem plIn_blk {k id : Nat} (h : 8000 ≤ k) (hm : m[k - 8000]? = some id) : (plIn pl m).blk k = pl.blk id := by simp [plIn, h, hm]
theorem plIn_cap {k id : Nat} (h : 8000 ≤ k) (hm : m[k - 8000]? = some id) : (plIn pl m).cap k = pl.cap id := by simp [plIn, h, hm]
/-- The objects of the entry are those that are lent. -/
theorem hin_get (L : Lend H m bvs id8) {k : Nat} {o' : Obj} (h : getA k (hinOf H m bvs 8000 m) = some o') :
    8000 ≤ k ∧ ∃ id o, m[k - 8000]? = some id ∧ id ∈ m ∧ getA id H = some o ∧ o.live = true ∧ o' = trObj H m bvs o ∧ (plIn pl m).blk k = pl.blk id ∧ (plIn pl m).cap k = pl.cap id := by
  obtain ⟨h1, id, h2, h3⟩ := hinOf_some h
  have hm := List.mem_of_getElem? h2
  obtain ⟨o, ho, hl⟩ := L.live id hm
  rw [ho] at h3
  exact ⟨h1, id, o, h2, hm, ho, hl, h3, plIn_blk h1 h2, plIn_cap h1 h2⟩
theorem zone_in (hH : HR E H pl w) (L : Lend H m bvs id8) {fr : Bool} {b : Nat} (h : ¬ zone E.b H pl fr b) : ¬ zone (entIn E H pl w m bvs).b (hinOf H m bvs 8000 m) (plIn pl m) false b := by
  rintro (⟨k, o', h1, h2, h3⟩ | ⟨h1, _⟩ | h1)
  · obtain ⟨_, id, o, _, _, h4, h5, _, h6, _⟩ := hin_get (pl := pl) L h1
    exact h (.inl ⟨id, o, h4, h5, h6 ▸ h3⟩)
  · cases h1
  · rcases h1 with h1 | ⟨id, o, h4, h5, _, _, h6⟩
    · exact h (.inr (.inr h1))
    · exact h (.inl ⟨id, o, h4, h5, h6⟩)
theorem ptr_in (L : Lend H m bvs id8) {id k ver j o : Nat} {v : Value} (hi : lendIx 8000 m id = some k) (hv : verAt H id = some ver) (h : ptrR H pl id ver j o v) :
    ptrR (hinOf H m bvs 8000 m) (plIn pl m) k 0 j o v := by
  obtain ⟨h1, h2⟩ := lendIx_some hi
  have h3 := hinOf_of (H := H) (m := m) (bvs := bvs) (k := 8000) h2
  have hk : 8000 + (k - 8000) = k := by omega
  rw [hk] at h3
  obtain ⟨ob, ho, hl⟩ := L.live id (List.mem_of_getElem? h2)
  rw [ho] at h3
  unfold ptrR at h ⊢
  rw [h3]
  rw [ho] at h
  simp only [verAt, ho, Option.map_some, Option.some.injEq] at hv
  cases ob with
  | box v' cs =>
    obtain rfl : v' = ver := hv
    exact ⟨Nat.le_refl _, fun _ => by rw [plIn_blk h1 h2]; exact h.2 rfl⟩
  | arr v' fr d =>
    obtain rfl : v' = ver := hv
    exact ⟨Nat.le_refl _, fun _ => by rw [plIn_blk h1 h2]; exact h.2 rfl⟩
  | dead v' => simp [Obj.live] at hl
theorem caps_in : ∀ {caps l : List (Nat × Nat)}, trCaps H m caps = some l → l.length = caps.length ∧ ∀ (i id' v' : Nat), l[i]? = some (id', v') → v' = 0 ∧ ∃ id ver, caps[i]? = some (id, ver) ∧ lendIx 8000 m id = some id' ∧ verAt H id = some ver
  | [], l, h => by
    simp only [trCaps, Option.some.injEq] at h
    subst h
    exact ⟨rfl, fun i id' v' h => by simp at h⟩
  | (id, ver) :: r, l, h => by
    simp only [trCaps] at h
    split at h
    · rename_i k l' hk hl'
      split at h
      · rename_i hv
        injection h with h
        subst h
        obtain ⟨h1, h2⟩ := caps_in hl'
        refine ⟨by simp [h1], fun i id' v' hi => ?_⟩
        cases i with
        | zero =>
          simp only [List.getElem?_cons_zero, Option.some.injEq, Prod.mk.injEq] at hi
          obtain ⟨rfl, rfl⟩ := hi
          exact ⟨rfl, id, ver, by simp, hk, hv⟩
        | succ i =>
          obtain ⟨h3, id2, ver2, h4, h5⟩ := h2 i id' v' (by simpa using hi)
          exact ⟨h3, id2, ver2, by simpa using h4, h5⟩
      · cases h
    · cases h
theorem cr_in (hH : HR E H pl w) (L : Lend H m bvs id8) {c : C} {v : Value} (h : CR E.b H pl w c v) :
    CR (entIn E H pl w m bvs).b (hinOf H m bvs 8000 m) (plIn pl m) w (trC H m bvs c) v := by
  cases c with
  | dsl fr d => exact ⟨h.1, h.2.mono fun b _ hz => ⟨zone_in hH L hz, rfl⟩⟩
  | dp fr ds =>
    obtain ⟨p, hv, hd⟩ := h
    refine ⟨p, hv, fun o e ho => ?_⟩
    obtain ⟨u, hu, hz, hr⟩ := hd o e ho
    exact ⟨u, hu, zone_in hH L hz, hr.mono fun b _ hz => ⟨zone_in hH L hz, rfl⟩⟩
  | osl id ver off len =>
    simp only [trC]
    split
    · rename_i k hk
      split
      · rename_i hv
        refine ⟨h.1, ?_⟩
        obtain ⟨h1, h2⟩ := lendIx_some hk
        have h3 := hinOf_of (H := H) (m := m) (bvs := bvs) (k := 8000) h2
        have hkk : 8000 + (k - 8000) = k := by omega
        rw [hkk] at h3
        obtain ⟨ob, ho, hl⟩ := L.live id (List.mem_of_getElem? h2)
        rw [ho] at h3
        have h4 := h.2
        unfold oslR at h4 ⊢
        rw [h3]
        rw [ho] at h4
        simp only [verAt, ho, Option.map_some, Option.some.injEq] at hv
        cases ob with
        | box v' cs =>
          obtain rfl : v' = ver := hv
          exact absurd h4 (Nat.lt_irrefl _)
        | arr v' fr d =>
          obtain rfl : v' = ver := hv
          exact ⟨Nat.le_refl _, fun _ => by rw [plIn_blk h1 h2, plIn_cap h1 h2]; exact h4.2 rfl⟩
        | dead v' => simp [Obj.live] at hl
      · trivial
    · rename_i hk
      have hm := lendIx_none hk
      split
      · rename_i ver' fr d hg
        split
        · rename_i hc
          obtain ⟨rfl, hb⟩ := hc
          have hb : id ∈ bvs := by simpa using hb
          have := arr_reads hH hg h.2 (zone (entIn E H pl w m bvs).b (hinOf H m bvs 8000 m) (plIn pl m) false) (fun b hbb => ?_) (fun b _ hz => zone_in hH L hz)
          · exact ⟨this.1, this.2.2⟩
          · rintro (⟨k, o', h1, h2, h3⟩ | ⟨h1, _⟩ | h1)
            · obtain ⟨_, id', o, _, hm', h4, h5, _, h6, _⟩ := hin_get (pl := pl) L h1
              rw [h6] at h3
              have := hH.inj id id' _ o b hg rfl h4 h5 hbb h3
              subst this
              exact hm hm'
            · cases h1
            · rcases h1 with h1 | ⟨id', o, h4, h5, _, hnb, h6⟩
              · rcases (hH.blk id _ b hg rfl hbb).2 with hx | ⟨oi, hx1, hx2⟩
                · have := hH.hX b h1
                  omega
                · exact hH.hXl id oi b hx1 hx2 h1
              · have := hH.inj id id' _ o b hg rfl h4 h5 hbb h6
                subst this
                exact hnb hb
        · trivial
      · trivial
  | ptr id ver j o =>
    simp only [trC]
    split
    · rename_i k hk
      split
      · rename_i hv
        exact ⟨h.1, ptr_in L hk hv h.2⟩
      · trivial
    · trivial
  | fn f caps =>
    simp only [trC]
    split
    · rename_i l hl
      obtain ⟨cs, hv, hlen, hcs⟩ := h
      obtain ⟨h1, h2⟩ := caps_in hl
      refine ⟨cs, hv, hlen.trans h1.symm, fun i id' v' hi => ?_⟩
      obtain ⟨rfl, id, ver, h3, h4, h5⟩ := h2 i id' v' hi
      obtain ⟨u, hu, hp⟩ := hcs i id ver h3
      exact ⟨u, hu, ptr_in L h4 h5 hp⟩
    · trivial
  | _ => exact h
theorem vr_in (hH : HR E H pl w) (L : Lend H m bvs id8) {x : V} {v : Value} (h : VR E.b H pl w x v) :
    VR (entIn E H pl w m bvs).b (hinOf H m bvs 8000 m) (plIn pl m) w (trV H m bvs x) v := by
  cases x with
  | c c => exact cr_in hH L h
  | agg xs =>
    obtain ⟨cs, hv, hl, hcs⟩ := h
    refine ⟨cs, hv, by simp [hl], fun i c hi => ?_⟩
    rw [List.getElem?_map, Option.map_eq_some_iff] at hi
    obtain ⟨c', h1, rfl⟩ := hi
    obtain ⟨u, hu, hc⟩ := hcs i c' h1
    exact ⟨u, hu, cr_in hH L hc⟩
theorem hr_in (hH : HR E H pl w) (L : Lend H m bvs id8) : HR (entIn E H pl w m bvs) (hinOf H m bvs 8000 m) (plIn pl m) w := by
  refine ⟨rfl, rfl, rfl, Nat.le_refl _, fun _ _ _ => rfl, ?_, ?_, ?_, ?_, ?_, ?_, ?_⟩
  · intro k o' b h1 h2 h3
    obtain ⟨_, id, o, _, _, h4, h5, _, h6, _⟩ := hin_get (pl := pl) L h1
    exact ⟨(hH.blk id o b h4 h5 (h6 ▸ h3)).1, .inr ⟨o', h1, h3⟩⟩
  · intro k k' o o' b h1 _ h2 _ h3 h4
    obtain ⟨g0, id, o1, g1, _, g2, g3, _, g4, _⟩ := hin_get (pl := pl) L h1
    obtain ⟨k0, id', o2, k1, _, k2, k3, _, k4, _⟩ := hin_get (pl := pl) L h2
    have := hH.inj id id' o1 o2 b g2 g3 k2 k3 (g4 ▸ h3) (k4 ▸ h4)
    subst this
    have a1 := lendIx_of (k := 8000) L.nd g1
    have a2 := lendIx_of (k := 8000) L.nd k1
    have a3 := Option.some.inj (a1.symm.trans a2)
    omega
  · rintro b (h | ⟨id, o, h1, h2, _, _, h3⟩)
    · exact Nat.lt_of_lt_of_le (hH.hX b h) hH.size
    · exact (hH.blk id o b h1 h2 h3).1
  · intro k o' b h1 h2 hx
    obtain ⟨_, id, o, _, hm, h4, h5, _, h6, _⟩ := hin_get (pl := pl) L h1
    have h2 : pl.blk id = some b := h6 ▸ h2
    rcases hx with hx | ⟨id', o2, k1, k2, k3, _, k4⟩
    · rcases (hH.blk id o b h4 h5 h2).2 with h7 | ⟨oi, h7, h8⟩
      · have := hH.hX b hx
        omega
      · exact hH.hXl id oi b h7 h8 hx
    · have := hH.inj id id' o o2 b h4 h5 k1 k2 h2 k4
      subst this
      exact k3 hm
  · intro k o h
    exact (hin_get (pl := pl) L h).1
  · intro k o oi h1 h2
    dsimp only [entIn] at h2
    rw [h1] at h2
    injection h2 with h2
    subst h2
    exact Obj.to_refl _ _ _
  · intro k o' h1
    obtain ⟨_, id, o, _, hm, h4, h5, h7, h6, h8⟩ := hin_get (pl := pl) L h1
    have ho := hH.objs id o h4
    subst h7
    cases o with
    | box ver cs =>
      obtain ⟨b, vs, T, g1, g2, g3, g4⟩ := ho
      refine ⟨b, vs, T, h6.trans g1, g2, by simp [g3], fun i c hi => ?_⟩
      rw [List.getElem?_map, Option.map_eq_some_iff] at hi
      obtain ⟨c', h1, rfl⟩ := hi
      obtain ⟨u, hu, hc⟩ := g4 i c' h1
      exact ⟨u, hu, cr_in hH L hc⟩
    | arr ver fr d =>
      obtain ⟨es, xs, g1, g2, g3, g4, g5⟩ := ho
      refine ⟨es, xs, g1, g2, g3, by rw [h6]; exact g4, fun b hb => ?_⟩
      rw [h6] at hb
      obtain ⟨vs, T, k1, k2, k3, k4⟩ := g5 b hb
      refine ⟨vs, T, k1, by rw [h8]; exact k2, by rw [h8]; exact k3, fun j o e he => ?_⟩
      obtain ⟨u, hu, hr⟩ := k4 j o e he
      refine ⟨u, hu, ?_⟩
      cases hf : d.flatRow with
      | true => exact hr.flat (flat_of hf g1 he)
      | false => exact hr.mono fun b _ hz => ⟨zone_in hH L hz, rfl⟩
    | dead v => trivial
end
end Go.AM
