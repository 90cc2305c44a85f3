/- The abstract machine: a call comes back. -/
import Derived.Test.YtaicenafkjbnoaaAmN
set_option linter.unusedVariables false
set_option linter.unusedSimpArgs false
set_option linter.unusedSectionVars false
namespace Go.AM

def backId (H : Heap) (m : List Nat) (id8 k : Nat) : Option (Nat × Nat) :=
  if 9000 ≤ k then (if k < 9008 then some (id8 + (k - 9000), verOf H (id8 + (k - 9000))) else none)
  else if 8000 ≤ k then (m[k - 8000]?).map (fun id => (id, (verAt H id).getD 0)) else none
def fwdId (m : List Nat) (id8 id : Nat) : Option Nat :=
  if id8 ≤ id ∧ id < id8 + 8 then some (9000 + (id - id8)) else lendIx 8000 m id
def bkCaps (F : Nat → Option (Nat × Nat)) : List (Nat × Nat) → Option (List (Nat × Nat))
  | [] => some []
  | (k, v) :: r =>
    match F k, bkCaps F r with
    | some (id, v0), some l => some ((id, v0 + v) :: l)
    | _, _ => none
def bkC (F : Nat → Option (Nat × Nat)) (ok : Bool) : C → C
  | .dsl fr d => if fr || ok then .dsl fr d else .bad
  | .dp fr ds => if fr || ok then .dp fr ds else .bad
  | .osl k v off len =>
    match F k with
    | some (id, v0) => .osl id (v0 + v) off len
    | none => .bad
  | .ptr k v j o =>
    match F k with
    | some (id, v0) => .ptr id (v0 + v) j o
    | none => .bad
  | .fn f caps =>
    match bkCaps F caps with
    | some l => .fn f l
    | none => .bad
  | c => c
def bkV (F : Nat → Option (Nat × Nat)) (ok : Bool) : V → V
  | .c x => .c (bkC F ok x)
  | .agg xs => .agg (xs.map (bkC F ok))
def bkLV (F : Nat → Option (Nat × Nat)) (ok : Bool) : LV → LV
  | .v x => .v (bkV F ok x)
  | .tup xs => .tup (xs.map (bkV F ok))
def bkObj (F : Nat → Option (Nat × Nat)) (ok : Bool) (v0 : Nat) : Obj → Option Obj
  | .box v cs => some (.box (v0 + v) (cs.map (bkC F ok)))
  | .arr v fr d => if fr || ok || d.flatRow then some (.arr (v0 + v) (fr || d.flatRow) d) else none
  | .dead v => some (.dead (v0 + v))
def bkH (F : Nat → Option (Nat × Nat)) (ok : Bool) : Heap → Option (List (Nat × Obj))
  | [] => some []
  | (k, o) :: r =>
    match F k with
    | some (id, v0) =>
      match bkObj F ok v0 o, bkH F ok r with
      | some o', some l => some ((id, o') :: l)
      | _, _ => none
    | none => none
/-- What a call has made of the objects. -/
def callUpd (H : Heap) (m bvs : List Nat) (id8 : Nat) (hout : Heap) : Option (List (Nat × Obj)) :=
  if nodupB (hout.map (·.1)) && (List.range m.length).all (fun i => (getA (8000 + i) hout).isSome) then bkH (backId H m id8) bvs.isEmpty hout else none

theorem bkObj_ver {F : Nat → Option (Nat × Nat)} {ok : Bool} {v0 : Nat} {o o' : Obj} (h : bkObj F ok v0 o = some o') : o'.ver = v0 + o.ver ∧ o'.live = o.live := by
  cases o <;> simp only [bkObj] at h
  · injection h with h; subst h; exact ⟨rfl, rfl⟩
  · split at h
    · injection h with h; subst h; exact ⟨rfl, rfl⟩
    · cases h
  · injection h with h; subst h; exact ⟨rfl, rfl⟩

section
variable {E : Ent} {H : Heap} {pl : Pl} {w : World} {m bvs : List Nat} {id8 : Nat}
theorem back_fwd (L : Lend H m bvs id8) {k id v0 : Nat} (h : backId H m id8 k = some (id, v0)) : fwdId m id8 id = some k := by
  unfold backId at h
  split at h
  · split at h
    · have h := Option.some.inj h
      simp only [Prod.mk.injEq] at h
      obtain ⟨rfl, _⟩ := h
      unfold fwdId
      rw [if_pos (by omega)]
      exact congrArg some (by omega)
    · cases h
  · split at h
    · obtain ⟨id', h1, h2⟩ := Option.map_eq_some_iff.1 h
      simp only [Prod.mk.injEq] at h2
      obtain ⟨rfl, _⟩ := h2
      unfold fwdId
      rw [if_neg (L.apart id' (List.mem_of_getElem? h1)), lendIx_of L.nd h1]
      exact congrArg some (by omega)
    · cases h
theorem fwd_back (L : Lend H m bvs id8) {k id : Nat} (h : fwdId m id8 id = some k) :
    (id ∉ m ∧ id8 ≤ id ∧ id < id8 + 8 ∧ backId H m id8 k = some (id, verOf H id)) ∨ (id ∈ m ∧ 8000 ≤ k ∧ m[k - 8000]? = some id ∧ ∃ o, getA id H = some o ∧ o.live = true ∧ backId H m id8 k = some (id, o.ver)) := by
  unfold fwdId at h
  split at h
  · rename_i hc
    have h := Option.some.inj h
    subst h
    refine .inl ⟨fun hm => L.apart id hm hc, hc.1, hc.2, ?_⟩
    unfold backId
    rw [if_pos (by omega), if_pos (by omega)]
    have : id8 + (9000 + (id - id8) - 9000) = id := by omega
    rw [this]
  · obtain ⟨h1, h2⟩ := lendIx_some h
    have hm := List.mem_of_getElem? h2
    obtain ⟨o, ho, hl⟩ := L.live id hm
    refine .inr ⟨hm, h1, h2, o, ho, hl, ?_⟩
    have hlt := (List.getElem?_eq_some_iff.1 h2).1
    have := L.len
    unfold backId
    rw [if_neg (by omega), if_pos h1, h2]
    simp [verAt, ho]
theorem lent_fwd (L : Lend H m bvs id8) {id : Nat} (h : id ∈ m) : ∃ k, fwdId m id8 id = some k ∧ 8000 ≤ k ∧ m[k - 8000]? = some id ∧ k - 8000 < m.length := by
  obtain ⟨i, hi⟩ := List.getElem?_of_mem h
  refine ⟨8000 + i, ?_, by omega, ?_, ?_⟩
  · unfold fwdId
    rw [if_neg (L.apart id h), lendIx_of L.nd hi]
  · have : 8000 + i - 8000 = i := by omega
    rw [this]; exact hi
  · have := (List.getElem?_eq_some_iff.1 hi).1
    omega

theorem updH_get : ∀ (l : List (Nat × Obj)) (H : Heap) (id : Nat), (l.map (·.1)).Nodup → getA id (updH l H) = (match getA id l with | some o => some o | none => getA id H)
  | [], H, id, _ => rfl
  | (k, o) :: r, H, id, hn => by
    simp only [List.map_cons, List.nodup_cons] at hn
    have ih := updH_get r (setA k o H) id hn.2
    simp only [updH, List.foldl] at ih ⊢
    rw [ih]
    have hno : ∀ l : List (Nat × Obj), k ∉ l.map (·.1) → getA k l = none := by
      intro l
      induction l with
      | nil => intro _; rfl
      | cons p q ihq =>
        obtain ⟨a, b⟩ := p
        intro h
        simp only [List.map_cons, List.mem_cons, not_or] at h
        simp only [getA, if_neg (fun e => h.1 (Eq.symm e))]
        exact ihq h.2
    by_cases he : k = id
    · subst he
      rw [hno r hn.1]
      simp [getA, getA_setA]
    · simp only [getA, if_neg he, getA_setA]

theorem bkH_get {F : Nat → Option (Nat × Nat)} {ok : Bool} (hinj : ∀ k k' id v v', F k = some (id, v) → F k' = some (id, v') → k = k') : ∀ {l : Heap} {u : List (Nat × Obj)}, bkH F ok l = some u →
    (∀ k o, getA k l = some o → ∃ id v0 o', F k = some (id, v0) ∧ bkObj F ok v0 o = some o' ∧ getA id u = some o') ∧
    (∀ id o', getA id u = some o' → ∃ k o v0, getA k l = some o ∧ F k = some (id, v0)) ∧ (∀ id, id ∈ u.map (·.1) → ∃ k v0, k ∈ l.map (·.1) ∧ F k = some (id, v0)) ∧ ((l.map (·.1)).Nodup → (u.map (·.1)).Nodup)
  | [], u, h => by
    simp only [bkH, Option.some.injEq] at h
    subst h
    exact ⟨fun k o h => by simp [getA] at h, fun k o h => by simp [getA] at h, fun id h => by simp at h, fun _ => .nil⟩
  | (k, o) :: r, u, h => by
    simp only [bkH] at h
    split at h
    · rename_i id v0 hF
      split at h
      · rename_i o' l ho' hl
        injection h with h
        subst h
        obtain ⟨h1, h2, h3, h4⟩ := bkH_get hinj hl
        refine ⟨fun k' ob hk => ?_, fun id' ob hk => ?_, fun id' hid => ?_, fun hn => ?_⟩
        · simp only [getA] at hk
          split at hk
          · rename_i e
            injection hk with hk
            subst e; subst hk
            exact ⟨id, v0, o', hF, ho', by simp [getA]⟩
          · rename_i e
            obtain ⟨id', v', ob', g1, g2, g3⟩ := h1 k' ob hk
            refine ⟨id', v', ob', g1, g2, ?_⟩
            have : id ≠ id' := fun he => e (hinj k k' id v0 v' hF (he ▸ g1))
            simpa [getA, this] using g3
        · simp only [getA] at hk
          split at hk
          · rename_i e
            subst e
            exact ⟨k, o, v0, by simp [getA], hF⟩
          · rename_i e
            obtain ⟨k', o2, v2, g1, g2⟩ := h2 id' ob hk
            have : k ≠ k' := fun he => e (by
              rw [he, g2] at hF
              have hF := Option.some.inj hF
              simp only [Prod.mk.injEq] at hF
              exact hF.1.symm)
            exact ⟨k', o2, v2, by simpa [getA, this] using g1, g2⟩
        · simp only [List.map_cons, List.mem_cons] at hid
          rcases hid with rfl | hid
          · exact ⟨k, v0, by simp, hF⟩
          · obtain ⟨k', v', g1, g2⟩ := h3 id' hid
            exact ⟨k', v', by simp only [List.map_cons, List.mem_cons]; exact .inr g1, g2⟩
        · simp only [List.map_cons, List.nodup_cons] at hn ⊢
          refine ⟨fun hm => ?_, h4 hn.2⟩
          obtain ⟨k', v', g1, g2⟩ := h3 id hm
          exact hn.1 (hinj k k' id v0 v' hF g2 ▸ g1)
      · cases h
    · cases h

/-- The call's objects and the caller's, side by side. -/
structure Back (E : Ent) (H : Heap) (pl : Pl) (w : World) (m bvs : List Nat) (id8 : Nat) (hout : Heap) (pc : Pl) (w' : World) (H' : Heap) (pl' : Pl) : Prop where
  L : Lend H m bvs id8
  id : id8 + 8 ≤ 8000
  hH : HR E H pl w
  hC : HR (entIn E H pl w m bvs) hout pc w'
  here : ∀ id ∈ m, ∃ k o, fwdId m id8 id = some k ∧ getA k hout = some o
  new : ∀ k o, getA k hout = some o → ∃ id v0 o', backId H m id8 k = some (id, v0) ∧ bkObj (backId H m id8) bvs.isEmpty v0 o = some o' ∧ getA id H' = some o' ∧ pl'.blk id = pc.blk k ∧ pl'.cap id = pc.cap k
  old : ∀ id, (∀ k o, fwdId m id8 id = some k → getA k hout = some o → False) → getA id H' = getA id H ∧ pl'.blk id = pl.blk id ∧ pl'.cap id = pl.cap id

theorem back_of (hid : id8 + 8 ≤ 8000) (L : Lend H m bvs id8) (hH : HR E H pl w) {hout : Heap} {pc : Pl} {w' : World} (hC : HR (entIn E H pl w m bvs) hout pc w') {u : List (Nat × Obj)} (hu : callUpd H m bvs id8 hout = some u) :
    ∃ pl', Back E H pl w m bvs id8 hout pc w' (updH u H) pl' := by
  unfold callUpd at hu
  split at hu
  · rename_i hc
    simp only [Bool.and_eq_true, List.all_eq_true, List.mem_range] at hc
    have hn := nodupB_iff hc.1
    have hinj : ∀ k k' id v v', backId H m id8 k = some (id, v) → backId H m id8 k' = some (id, v') → k = k' := fun k k' id v v' h1 h2 => Option.some.inj ((back_fwd L h1).symm.trans (back_fwd L h2))
    obtain ⟨h1, h2, _, h4⟩ := bkH_get hinj hu
    refine ⟨⟨fun id => match fwdId m id8 id with | some k => if (getA k hout).isSome then pc.blk k else pl.blk id | none => pl.blk id, fun id => match fwdId m id8 id with | some k => if (getA k hout).isSome then pc.cap k else pl.cap id | none => pl.cap id⟩, L, hid, hH, hC, fun id hm => ?_, fun k o hk => ?_, fun id hno => ?_⟩
    · obtain ⟨k, g1, g2, g3, g4⟩ := lent_fwd L hm
      have := hc.2 (k - 8000) g4
      have e : 8000 + (k - 8000) = k := by omega
      rw [e] at this
      obtain ⟨o, ho⟩ := Option.isSome_iff_exists.1 this
      exact ⟨k, o, g1, ho⟩
    · obtain ⟨id, v0, o', g1, g2, g3⟩ := h1 k o hk
      refine ⟨id, v0, o', g1, g2, ?_, ?_, ?_⟩
      · rw [updH_get _ _ _ (h4 hn), g3]
      · simp [back_fwd L g1, hk]
      · simp [back_fwd L g1, hk]
    · refine ⟨?_, ?_, ?_⟩
      · rw [updH_get _ _ _ (h4 hn)]
        cases hg : getA id u with
        | none => rfl
        | some o' =>
          obtain ⟨k, o, v0, g1, g2⟩ := h2 id o' hg
          exact (hno k o (back_fwd L g2) g1).elim
      · dsimp only
        split
        · rename_i k hk
          rw [if_neg]
          intro hs
          obtain ⟨o, ho⟩ := Option.isSome_iff_exists.1 hs
          exact hno k o hk ho
        · rfl
      · dsimp only
        split
        · rename_i k hk
          rw [if_neg]
          intro hs
          obtain ⟨o, ho⟩ := Option.isSome_iff_exists.1 hs
          exact hno k o hk ho
        · rfl
  · cases hu

section
variable {hout : Heap} {pc : Pl} {w' : World} {H' : Heap} {pl' : Pl}
theorem Back.cases (B : Back E H pl w m bvs id8 hout pc w' H' pl') (id : Nat) :
    (∃ k o v0 o', fwdId m id8 id = some k ∧ getA k hout = some o ∧ backId H m id8 k = some (id, v0) ∧ bkObj (backId H m id8) bvs.isEmpty v0 o = some o' ∧ getA id H' = some o' ∧ pl'.blk id = pc.blk k ∧ pl'.cap id = pc.cap k) ∨
    (id ∉ m ∧ (∀ k o, fwdId m id8 id = some k → getA k hout = some o → False) ∧ getA id H' = getA id H ∧ pl'.blk id = pl.blk id ∧ pl'.cap id = pl.cap id) := by
  by_cases h : ∃ k o, fwdId m id8 id = some k ∧ getA k hout = some o
  · obtain ⟨k, o, h1, h2⟩ := h
    obtain ⟨id', v0, o', g1, g2, g3⟩ := B.new k o h2
    have hb : ∃ v, backId H m id8 k = some (id, v) := by
      rcases fwd_back B.L h1 with ⟨_, _, _, hx⟩ | ⟨_, _, _, o2, _, _, hx⟩
      · exact ⟨_, hx⟩
      · exact ⟨_, hx⟩
    obtain ⟨v, hb⟩ := hb
    rw [hb] at g1
    have g1 := Option.some.inj g1
    simp only [Prod.mk.injEq] at g1
    obtain ⟨rfl, rfl⟩ := g1
    exact .inl ⟨k, o, v, o', h1, h2, hb, g2, g3⟩
  · have hno : ∀ k o, fwdId m id8 id = some k → getA k hout = some o → False := fun k o h1 h2 => h ⟨k, o, h1, h2⟩
    refine .inr ⟨fun hm => ?_, hno, B.old id hno⟩
    obtain ⟨k, o, h1, h2⟩ := B.here id hm
    exact hno k o h1 h2
theorem Back.zone (B : Back E H pl w m bvs id8 hout pc w' H' pl') {fr : Bool} (hf : fr = true ∨ bvs = []) {b : Nat} (h : ¬ zone (entIn E H pl w m bvs).b hout pc fr b) : ¬ AM.zone E.b H' pl' fr b := by
  rintro (⟨id, o, h1, h2, h3⟩ | ⟨h1, h2⟩ | h1)
  · rcases B.cases id with ⟨k, oc, v0, o', g1, g2, g3, g4, g5, g6, g7⟩ | ⟨g1, g2, g3, g4, g5⟩
    · rw [g5] at h1
      injection h1 with h1
      subst h1
      exact h (.inl ⟨k, oc, g2, (bkObj_ver g4).2 ▸ h2, g6 ▸ h3⟩)
    · rw [g3] at h1
      rw [g4] at h3
      have hb := (B.hH.blk id o b h1 h2 h3).1
      rcases hf with rfl | rfl
      · exact h (.inr (.inl ⟨rfl, hb⟩))
      · exact h (.inr (.inr (.inr ⟨id, o, h1, h2, g1, by simp, h3⟩)))
  · exact h (.inr (.inl ⟨h1, Nat.lt_of_lt_of_le h2 B.hH.size⟩))
  · exact h (.inr (.inr (.inl h1)))
theorem Back.reads (B : Back E H pl w m bvs id8 hout pc w' H' pl') {fr : Bool} (hf : (fr || bvs.isEmpty) = true) {v : Value} {d : D} (h : Reads (AM.zone (entIn E H pl w m bvs).b hout pc fr) w' v d) : Reads (AM.zone E.b H' pl' fr) w' v d := by
  refine h.mono fun b _ hz => ⟨B.zone ?_ hz, rfl⟩
  simpa using hf
theorem Back.ptr (B : Back E H pl w m bvs id8 hout pc w' H' pl') {k id v0 ver j o : Nat} {v : Value} (hk : backId H m id8 k = some (id, v0)) (h : ptrR hout pc k ver j o v) : ptrR H' pl' id (v0 + ver) j o v := by
  unfold ptrR at h
  cases hg : getA k hout with
  | none => rw [hg] at h; exact h.elim
  | some ob =>
    rw [hg] at h
    obtain ⟨id', v0', o', g1, g2, g3, g4, g5⟩ := B.new k ob hg
    rw [hk] at g1
    have g1 := Option.some.inj g1
    simp only [Prod.mk.injEq] at g1
    obtain ⟨rfl, rfl⟩ := g1
    unfold ptrR
    rw [g3]
    cases ob <;> simp only [bkObj] at g2
    · injection g2 with g2; subst g2
      exact ⟨by have := h.1; omega, fun e => by rw [g4]; exact h.2 (by omega)⟩
    · split at g2
      · injection g2 with g2; subst g2
        exact ⟨by have := h.1; omega, fun e => by rw [g4]; exact h.2 (by omega)⟩
      · cases g2
    · injection g2 with g2; subst g2
      exact Nat.add_lt_add_left h _
theorem Back.osl (B : Back E H pl w m bvs id8 hout pc w' H' pl') {k id v0 ver off len : Nat} {v : Value} (hk : backId H m id8 k = some (id, v0)) (h : oslR hout pc k ver off len v) : oslR H' pl' id (v0 + ver) off len v := by
  unfold oslR at h
  cases hg : getA k hout with
  | none => rw [hg] at h; exact h.elim
  | some ob =>
    rw [hg] at h
    obtain ⟨id', v0', o', g1, g2, g3, g4, g5⟩ := B.new k ob hg
    rw [hk] at g1
    have g1 := Option.some.inj g1
    simp only [Prod.mk.injEq] at g1
    obtain ⟨rfl, rfl⟩ := g1
    unfold oslR
    rw [g3]
    cases ob <;> simp only [bkObj] at g2
    · injection g2 with g2; subst g2
      exact Nat.add_lt_add_left h _
    · split at g2
      · injection g2 with g2; subst g2
        exact ⟨by have := h.1; omega, fun e => by rw [g4, g5]; exact h.2 (by omega)⟩
      · cases g2
    · injection g2 with g2; subst g2
      exact Nat.add_lt_add_left h _
theorem bkCaps_get {F : Nat → Option (Nat × Nat)} : ∀ {caps l : List (Nat × Nat)}, bkCaps F caps = some l → l.length = caps.length ∧ ∀ (i id ver : Nat), l[i]? = some (id, ver) → ∃ k v v0, caps[i]? = some (k, v) ∧ F k = some (id, v0) ∧ ver = v0 + v
  | [], l, h => by
    simp only [bkCaps, Option.some.injEq] at h
    subst h
    exact ⟨rfl, fun i id ver h => by simp at h⟩
  | (k, v) :: r, l, h => by
    simp only [bkCaps] at h
    split at h
    · rename_i id v0 l' hF hl
      injection h with h
      subst h
      obtain ⟨h1, h2⟩ := bkCaps_get hl
      refine ⟨by simp [h1], fun i id' ver hi => ?_⟩
      cases i with
      | zero =>
        simp only [List.getElem?_cons_zero, Option.some.injEq, Prod.mk.injEq] at hi
        obtain ⟨rfl, rfl⟩ := hi
        exact ⟨k, v, v0, by simp, hF, rfl⟩
      | succ i =>
        obtain ⟨k', v', v0', g1, g2⟩ := h2 i id' ver (by simpa using hi)
        exact ⟨k', v', v0', by simpa using g1, g2⟩
    · cases h
theorem Back.cr (B : Back E H pl w m bvs id8 hout pc w' H' pl') {c : C} {v : Value} (h : CR (entIn E H pl w m bvs).b hout pc w' c v) : CR E.b H' pl' w' (bkC (backId H m id8) bvs.isEmpty c) v := by
  cases c with
  | dsl fr d =>
    simp only [bkC]
    split
    · rename_i hf
      exact ⟨h.1, B.reads hf h.2⟩
    · trivial
  | dp fr ds =>
    simp only [bkC]
    split
    · rename_i hf
      obtain ⟨p, hv, hd⟩ := h
      refine ⟨p, hv, fun o e ho => ?_⟩
      obtain ⟨u, hu, hz, hr⟩ := hd o e ho
      exact ⟨u, hu, B.zone (by simpa using hf) hz, B.reads hf hr⟩
    · trivial
  | osl k ver off len =>
    simp only [bkC]
    split
    · rename_i id v0 hk
      exact ⟨h.1, B.osl hk h.2⟩
    · trivial
  | ptr k ver j o =>
    simp only [bkC]
    split
    · rename_i id v0 hk
      exact ⟨h.1, B.ptr hk h.2⟩
    · trivial
  | fn f caps =>
    simp only [bkC]
    split
    · rename_i l hl
      obtain ⟨cs, hv, hlen, hcs⟩ := h
      obtain ⟨h1, h2⟩ := bkCaps_get hl
      refine ⟨cs, hv, hlen.trans h1.symm, fun i id ver hi => ?_⟩
      obtain ⟨k, v1, v0, h3, h4, rfl⟩ := h2 i id ver hi
      obtain ⟨u, hu, hp⟩ := hcs i k v1 h3
      exact ⟨u, hu, B.ptr h4 hp⟩
    · trivial
  | _ => exact h
theorem Back.vr (B : Back E H pl w m bvs id8 hout pc w' H' pl') {x : V} {v : Value} (h : VR (entIn E H pl w m bvs).b hout pc w' x v) : VR E.b H' pl' w' (bkV (backId H m id8) bvs.isEmpty x) v := by
  cases x with
  | c c => exact B.cr h
  | agg xs =>
    obtain ⟨cs, hv, hl, hcs⟩ := h
    refine ⟨cs, hv, by simp [hl], fun i c hi => ?_⟩
    rw [List.getElem?_map, Option.map_eq_some_iff] at hi
    obtain ⟨c', h1, rfl⟩ := hi
    obtain ⟨u, hu, hc⟩ := hcs i c' h1
    exact ⟨u, hu, B.cr hc⟩
theorem Back.lvr (B : Back E H pl w m bvs id8 hout pc w' H' pl') {x : LV} {v : Value} (h : LVR (entIn E H pl w m bvs).b hout pc w' x v) : LVR E.b H' pl' w' (bkLV (backId H m id8) bvs.isEmpty x) v := by
  cases x with
  | v x => exact B.vr h
  | tup xs =>
    obtain ⟨cs, hv, hl, hcs⟩ := h
    refine ⟨cs, hv, by simp [hl], fun i c hi => ?_⟩
    rw [List.getElem?_map, Option.map_eq_some_iff] at hi
    obtain ⟨c', h1, rfl⟩ := hi
    obtain ⟨u, hu, hc⟩ := hcs i c' h1
    exact ⟨u, hu, B.vr hc⟩
theorem Back.objR (B : Back E H pl w m bvs id8 hout pc w' H' pl') {k id v0 : Nat} {o o' : Obj} (hb : pl'.blk id = pc.blk k) (hc : pl'.cap id = pc.cap k) (ho : bkObj (backId H m id8) bvs.isEmpty v0 o = some o')
    (h : ObjR (entIn E H pl w m bvs).b hout pc w' k o) : ObjR E.b H' pl' w' id o' := by
  cases o with
  | box ver cs =>
    simp only [bkObj] at ho
    injection ho with ho
    subst ho
    obtain ⟨b, vs, T, g1, g2, g3, g4⟩ := h
    refine ⟨b, vs, T, hb.trans g1, g2, by simp [g3], fun i c hi => ?_⟩
    rw [List.getElem?_map, Option.map_eq_some_iff] at hi
    obtain ⟨c', h1, rfl⟩ := hi
    obtain ⟨u, hu, hx⟩ := g4 i c' h1
    exact ⟨u, hu, B.cr hx⟩
  | arr ver fr d =>
    simp only [bkObj] at ho
    split at ho
    · rename_i hf
      injection ho with ho
      subst ho
      obtain ⟨es, xs, g1, g2, g3, g4, g5⟩ := h
      refine ⟨es, xs, g1, g2, g3, by rw [hb]; exact g4, fun b hbb => ?_⟩
      rw [hb] at hbb
      obtain ⟨vs, T, k1, k2, k3, k4⟩ := g5 b hbb
      refine ⟨vs, T, k1, by rw [hc]; exact k2, by rw [hc]; exact k3, fun j o e he => ?_⟩
      obtain ⟨u, hu, hr⟩ := k4 j o e he
      refine ⟨u, hu, ?_⟩
      cases hfl : d.flatRow with
      | true => exact hr.flat (flat_of hfl g1 he)
      | false =>
        rw [hfl, Bool.or_false] at hf
        rw [Bool.or_false]
        exact B.reads hf hr
    · cases ho
  | dead ver =>
    simp only [bkObj] at ho
    injection ho with ho
    subst ho
    trivial
/-- What becomes of an object of the caller. -/
theorem Back.to (B : Back E H pl w m bvs id8 hout pc w' H' pl') {id : Nat} {o : Obj} (h : getA id H = some o) : ∃ o', getA id H' = some o' ∧ o.to pl pl' id o' := by
  rcases B.cases id with ⟨k, oc, v0, o', g1, g2, g3, g4, g5, g6, g7⟩ | ⟨g1, g2, g3, g4, g5⟩
  · refine ⟨o', g5, ?_⟩
    rcases fwd_back B.L g1 with ⟨_, _, _, hx⟩ | ⟨hm, hk, hmk, o2, ho2, hl, hx⟩
    · rw [g3] at hx
      have hx := Option.some.inj hx
      simp only [Prod.mk.injEq, true_and] at hx
      left
      rw [(bkObj_ver g4).1, hx]
      simp only [verOf, h]
      omega
    · rw [h] at ho2
      injection ho2 with ho2
      subst ho2
      rw [g3] at hx
      have hx := Option.some.inj hx
      simp only [Prod.mk.injEq, true_and] at hx
      subst hx
      have hin := hinOf_of (H := H) (m := m) (bvs := bvs) (k := 8000) hmk
      have e : 8000 + (k - 8000) = k := by omega
      rw [e, h] at hin
      have ht := B.hC.lent k oc _ g2 hin
      dsimp only [Option.getD] at ht
      have p1 : (plIn pl m).blk k = pl.blk id := plIn_blk hk hmk
      have p2 : (plIn pl m).cap k = pl.cap id := plIn_cap hk hmk
      rcases ht with ht | ht
      · left
        rw [(bkObj_ver g4).1]
        have : (trObj H m bvs o).ver = 0 := by cases o <;> rfl
        omega
      · right
        cases o <;> cases oc <;> simp only [trObj, entIn] at ht <;> simp only [bkObj] at g4
        · injection g4 with g4; subst g4
          refine ⟨?_, ?_⟩
          · show _ = _ + _
            simp only [Obj.ver]
            omega
          · rw [g6, ht.2, p1]
        · split at g4
          · injection g4 with g4; subst g4
            refine ⟨?_, ?_, ?_, ht.2.2.2⟩
            · simp only [Obj.ver]; omega
            · rw [g6, ht.2.1, p1]
            · rw [g7, ht.2.2.1, p2]
          · cases g4
        · simp [Obj.live] at hl
  · refine ⟨o, g3.trans h, ?_⟩
    have := o.to_refl pl id
    unfold Obj.to at *
    rw [g4, g5]
    exact this
theorem Back.evo (B : Back E H pl w m bvs id8 hout pc w' H' pl') : Evo E.b H pl w H' pl' w' := by
  refine ⟨fun id o h => B.to h, fun fr b hb hz => ?_, fun b hb hz => ?_⟩
  · rintro (⟨id, o, h1, h2, h3⟩ | h1)
    · rcases B.cases id with ⟨k, oc, v0, o', g1, g2, g3, g4, g5, g6, g7⟩ | ⟨g1, g2, g3, g4, g5⟩
      · rw [g5] at h1
        injection h1 with h1
        subst h1
        rw [g6] at h3
        rcases (B.hC.blk k oc b g2 ((bkObj_ver g4).2 ▸ h2) h3).2 with hx | ⟨oi, hx1, hx2⟩
        · simp only [entIn] at hx
          omega
        · obtain ⟨_, id2, o2, _, _, k4, k5, _, k6, _⟩ := hin_get (pl := pl) B.L hx1
          exact hz (.inl ⟨id2, o2, k4, k5, k6 ▸ hx2⟩)
      · exact hz (.inl ⟨id, o, g3 ▸ h1, h2, g4 ▸ h3⟩)
    · exact hz (.inr h1)
  · refine B.hC.frame b hb fun k oi hk hx => ?_
    obtain ⟨_, id2, o2, _, _, k4, k5, _, k6, _⟩ := hin_get (pl := pl) B.L hk
    exact hz id2 o2 k4 k5 (k6 ▸ hx)
theorem Back.hr (B : Back E H pl w m bvs id8 hout pc w' H' pl') : HR E H' pl' w' := by
  refine B.hH.step ⟨B.hC.os, B.hC.tape, B.hC.output, B.hC.size⟩ B.evo (fun id => ∃ k o, fwdId m id8 id = some k ∧ getA k hout = some o) (fun id hno => ?_) (fun id o b hno h1 h2 h3 => ?_) (fun id o' hM h1 => ?_) (fun id id' o o' b hM hM' h1 h2 h3 h4 h5 h6 => ?_)
  · exact B.old id fun k o h1 h2 => hno ⟨k, o, h1, h2⟩
  · refine B.hC.frame b (B.hH.blk id o b h1 h2 h3).1 fun k oi hk hx => ?_
    obtain ⟨_, id2, o2, _, hm, k4, k5, _, k6, _⟩ := hin_get (pl := pl) B.L hk
    have := B.hH.inj id id2 o o2 b h1 h2 k4 k5 h3 (k6 ▸ hx)
    subst this
    exact hno (B.here id hm)
  · rcases B.cases id with ⟨k, oc, v0, o2, g1, g2, g3, g4, g5, g6, g7⟩ | ⟨g1, g2, g3, g4, g5⟩
    · rw [g5] at h1
      injection h1 with h1
      subst h1
      refine ⟨B.objR g6 g7 g4 (B.hC.objs k oc g2), fun oi hoi => ?_, fun b hl hb => ?_⟩
      · rcases fwd_back B.L g1 with ⟨_, _, hlt, _⟩ | ⟨hm, _, _, o3, ho3, _, _⟩
        · have := B.hH.lentid id oi hoi
          have := B.id
          omega
        · obtain ⟨o4, h4, h5⟩ := B.to ho3
          rw [g5] at h4
          injection h4 with h4
          subst h4
          exact Obj.to_trans (B.hH.lent id o3 oi ho3 hoi) h5
      · rw [g6] at hb
        obtain ⟨a1, a2⟩ := B.hC.blk k oc b g2 ((bkObj_ver g4).2 ▸ hl) hb
        refine ⟨a1, ?_⟩
        rcases a2 with a2 | ⟨oi, a2, a3⟩
        · exact .inl a2
        · obtain ⟨hk8, id2, o5, hmk, hm, k4, k5, _, k6, _⟩ := hin_get (pl := pl) B.L a2
          right
          have hkk : 8000 ≤ k ∧ m[k - 8000]? = some id2 := ⟨hk8, hmk⟩
          rcases fwd_back B.L g1 with ⟨_, _, _, hx⟩ | ⟨hm2, hk2, hmk2, o6, ho6, hl6, _⟩
          · have hlt := (List.getElem?_eq_some_iff.1 hkk.2).1
            have := B.L.len
            unfold fwdId at g1
            rw [if_pos (by omega)] at g1
            have g1 := Option.some.inj g1
            omega
          · exact ⟨o6, ho6, hl6, by rw [← a3]; exact (plIn_blk hk2 hmk2).symm⟩
    · obtain ⟨k, o, h2, h3⟩ := hM
      exact (g2 k o h2 h3).elim
  · rcases B.cases id with ⟨k, oc, v0, o2, g1, g2, g3, g4, g5, g6, g7⟩ | ⟨g1, g2, g3, g4, g5⟩
    · rcases B.cases id' with ⟨k', oc', v0', o2', g1', g2', g3', g4', g5', g6', g7'⟩ | ⟨g1', g2', g3', g4', g5'⟩
      · rw [g5] at h1
        injection h1 with h1
        subst h1
        rw [g5'] at h3
        injection h3 with h3
        subst h3
        have := B.hC.inj k k' oc oc' b g2 ((bkObj_ver g4).2 ▸ h2) g2' ((bkObj_ver g4').2 ▸ h4) (g6 ▸ h5) (g6' ▸ h6)
        subst this
        rw [g3] at g3'
        have g3' := Option.some.inj g3'
        simp only [Prod.mk.injEq] at g3'
        exact g3'.1
      · obtain ⟨k, o, h2, h3⟩ := hM'
        exact (g2' k o h2 h3).elim
    · obtain ⟨k, o, h2, h3⟩ := hM
      exact (g2 k o h2 h3).elim
end
end
end Go.AM
