/- The abstract machine: what one operation does, and what it looks at. -/
import Derived.Test.YtaicenafkjbnoaaAmQ
set_option linter.unusedVariables false
set_option linter.unusedSimpArgs false
set_option linter.unusedSectionVars false
namespace Go.AM

/-! ### States that say the same -/
structure Eqv (s s' : St) : Prop where
  env : ∀ t, getA t s.env = getA t s'.env
  heap : ∀ id, getA id s.heap = getA id s'.heap
theorem Eqv.refl (s : St) : Eqv s s := ⟨fun _ => rfl, fun _ => rfl⟩
theorem Eqv.symm {s s' : St} (h : Eqv s s') : Eqv s' s := ⟨fun t => (h.env t).symm, fun t => (h.heap t).symm⟩
theorem Eqv.trans {s s' s'' : St} (h : Eqv s s') (h' : Eqv s' s'') : Eqv s s'' := ⟨fun t => (h.env t).trans (h'.env t), fun t => (h.heap t).trans (h'.heap t)⟩
theorem evo_same {B : Bs} {H H' : Heap} {pl : Pl} {w : World} (h : ∀ id, getA id H = getA id H') : Evo B H pl w H' pl w :=
  ⟨fun id o ho => ⟨o, (h id) ▸ ho, o.to_refl pl id⟩, fun fr b _ hz => by
    rintro (⟨id, o, h1, h2⟩ | h1)
    · exact hz (.inl ⟨id, o, (h id).symm ▸ h1, h2⟩)
    · exact hz (.inr h1), fun _ _ _ => rfl⟩
theorem HR.same {E : Ent} {H H' : Heap} {pl : Pl} {w : World} (hH : HR E H pl w) (h : ∀ id, getA id H = getA id H') : HR E H' pl w :=
  hH.step ⟨rfl, rfl, rfl, Nat.le_refl _⟩ (evo_same h) (fun _ => False) (fun id _ => ⟨(h id).symm, rfl, rfl⟩) (fun _ _ _ _ _ _ _ => rfl) (fun _ _ hf => hf.elim) (fun _ _ _ _ _ hf => hf.elim)
theorem Rel.eqv {E : Ent} {n : Nat} {s s' : St} {a : Act} {w : World} (R : Rel E n s a w) (h : Eqv s s') : Rel E n s' a w := by
  obtain ⟨pl, hH, hdf, hn, henv⟩ := R
  exact ⟨pl, hH.same h.heap, hdf, hn, fun t lv ht => (evo_same h.heap).lvr (henv t lv (h.env t ▸ ht))⟩

/-! ### Outcomes -/
def delE (dst : Option Tmp) (env : List (Nat × LV)) : List (Nat × LV) :=
  match dst with
  | some d => delA d env
  | none => env
def setE (dst : Option Tmp) (v : Option LV) (env : List (Nat × LV)) : List (Nat × LV) :=
  match v with
  | some x => putE dst x env
  | none => delE dst env
def outSt (s : St) (dst : Option Tmp) (v : Option LV) (u : List (Nat × Obj)) : St := ⟨setE dst v s.env, updH u s.heap⟩
theorem setE_get (dst : Option Tmp) (v : Option LV) (env : List (Nat × LV)) (t : Nat) : getA t (setE dst v env) = if dst = some t then v else getA t env := by
  cases dst with
  | none => cases v <;> simp [setE, putE, delE]
  | some d => cases v <;> simp [setE, putE, delE, getA, getA_delA]
def updAt (id : Nat) : List (Nat × Obj) → Option Obj
  | [] => none
  | (k, o) :: r => match updAt id r with | some x => some x | none => if k = id then some o else none
theorem updH_at : ∀ (u : List (Nat × Obj)) (H : Heap) (id : Nat), getA id (updH u H) = (match updAt id u with | some o => some o | none => getA id H)
  | [], H, id => rfl
  | (k, o) :: r, H, id => by
    have ih := updH_at r (setA k o H) id
    simp only [updH, List.foldl] at ih ⊢
    rw [ih]
    simp only [updAt]
    cases updAt id r with
    | some x => rfl
    | none =>
      simp only [getA_setA]
      by_cases h : k = id
      · simp [h]
      · simp [h]
theorem updAt_none : ∀ {u : List (Nat × Obj)} {id : Nat}, id ∉ u.map (·.1) → updAt id u = none
  | [], id, _ => rfl
  | (k, o) :: r, id, h => by
    simp only [List.map_cons, List.mem_cons, not_or] at h
    simp only [updAt, updAt_none h.2, if_neg (fun e => h.1 (Eq.symm e))]

structure Eff where
  out : Option LV → List (Nat × Obj) → Prop
  rd : List Nat
  wr : List Nat
def hid (o : Oper) : Nat :=
  match o.dst with
  | some d => 8 * d
  | none => 7992
def news (id8 : Nat) : List Nat := [id8, id8 + 1, id8 + 2, id8 + 3, id8 + 4, id8 + 5, id8 + 6, id8 + 7]
theorem mem_news {id8 k : Nat} (h : k < 8) : id8 + k ∈ news id8 := by
  simp only [news, List.mem_cons, List.not_mem_nil, or_false]
  omega
/-- Whether the operation is carried out, where its guard is known. -/
def guardE (ops : Array Oper) (env : List (Nat × LV)) (o : Oper) : Option Bool :=
  match o.guard with
  | none => some true
  | some (g, want) =>
    match (ops[g]?).bind (·.dst) with
    | none => none
    | some d =>
      match getA d env with
      | some (.v (.c (.bool b))) => some (b == want)
      | some (.tup []) => some false
      | _ => none

def callEff (s : St) (m bvs : List Nat) (id8 : Nat) (post : LV → Heap → Prop) : Eff :=
  ⟨fun v u => ∃ r hout, post r hout ∧ v = some (bkLV (backId s.heap m id8) bvs.isEmpty r) ∧ callUpd s.heap m bvs id8 hout = some u, m ++ bvs ++ news id8, m ++ news id8⟩
/-- What an operation does in a state. -/
inductive Does (P : Program) (tv : TV) (ops : Array Oper) (o : Oper) (s : St) : Eff → Prop
  | skip (h : guardE ops s.env o = some false) : Does P tv ops o s ⟨fun v u => v = some (.tup []) ∧ u = [], [], []⟩
  | det (h : guardE ops s.env o = some true) (st : Step) (ha : act tv s (hid o) o.op = some st) (hvc : st.vc) : Does P tv ops o s ⟨fun v u => v = some st.val ∧ u = st.upd, st.rd, st.upd.map (·.1)⟩
  | call (h : guardE ops s.env o = some true) (c : Call) (ho : o.op = .call c) (f : FuncId) (caps : List (Nat × Nat)) (m bvs : List Nat) (post : LV → Heap → Prop) (hc : calleeOf s c = some (f, caps))
      (hl : lendOk s.heap m bvs (hid o) = true) (K : CallsA P f (callArgs s m bvs c caps) (callHin s m bvs) post) (hu : ∀ r hout, post r hout → ∃ u, callUpd s.heap m bvs (hid o) hout = some u) :
      Does P tv ops o s (callEff s m bvs (hid o) post)

section
variable {P : Program} {tv : TV} {ops : Array Oper} {o : Oper} {s s' : St} {e e' : Eff} {E : Ent} {n : Nat} {a : Act} {w : World}

theorem wanted_of (henv : ∀ t lv, getA t s.env = some lv → ∀ b, lv = .v (.c (.bool b)) → a.tmps[t]? = some (.bool b)) (hen2 : ∀ t, getA t s.env = some (.tup []) → a.tmps.getD t undef = undef) {x : Bool} (h : guardE ops s.env o = some x) : Region.wanted o (yielded ops a.tmps) = x := by
  unfold guardE at h
  unfold Region.wanted
  split at h
  · rename_i hg
    rw [hg]
    exact Option.some.inj h
  · rename_i g want hg
    rw [hg]
    simp only
    split at h
    · cases h
    · rename_i d hd
      split at h
      · rename_i b hb
        have h := Option.some.inj h
        have := henv d _ hb b rfl
        unfold yielded
        rw [hd]
        simp only [Option.bind_some, this]
        rw [← h]
        simp
      · rename_i hb
        have h := Option.some.inj h
        have := hen2 d hb
        unfold yielded
        rw [hd]
        simp only [Option.bind_some]
        rw [Array.getD_eq_getD_getElem?] at this
        cases hx : a.tmps[d]? with
        | none => rw [← h]; rfl
        | some v =>
          rw [hx] at this
          simp only [Option.getD_some] at this
          subst this
          rw [← h]
          rfl
      · cases h
theorem Rel.undefs (R : Rel E n s a w) : ∀ t, getA t s.env = some (.tup []) → a.tmps.getD t undef = undef := by
  obtain ⟨pl, hH, hdf, hn, henv⟩ := R
  intro t ht
  obtain ⟨cs, hv, hl, _⟩ := henv t _ ht
  rw [hv]
  have : cs = #[] := Array.eq_empty_of_size_eq_zero (by simpa using hl)
  rw [this]
  rfl
theorem Rel.bools (R : Rel E n s a w) : ∀ t lv, getA t s.env = some lv → ∀ b, lv = .v (.c (.bool b)) → a.tmps[t]? = some (.bool b) := by
  obtain ⟨pl, hH, hdf, hn, henv⟩ := R
  rintro t lv ht b rfl
  have h := henv t _ ht
  have h : a.tmps.getD t undef = .bool b := h
  rw [Array.getD_eq_getD_getElem?] at h
  cases hx : a.tmps[t]? with
  | none => rw [hx] at h; cases h
  | some v => rw [hx] at h; exact congrArg some h

/-- An operation is carried out. -/
theorem Does.sound (hP : TVOk P tv) (hn9 : n ≤ 999) (hd : ∀ d, o.dst = some d → d < n) (R : Rel E n s a w) (D : Does P tv ops o s e) {next : Act → World → Prop} {Q : Exit → Act → World → Prop}
    (hnext : ∀ v u, e.out v u → ∀ a' w', Rel E n (outSt s o.dst v u) a' w' → next a' w') :
    if Region.wanted o (yielded ops a.tmps) then o.wp P a w next Q ∨ (o.asks P a w ∧ LetsOut Q) else next (a.put o.dst undef) w := by
  have hb := R.bools
  have hud := R.undefs
  have hid8 : hid o + 8 ≤ 8000 := by
    unfold hid
    split
    · rename_i d hdd
      have h1 : @LT.lt Nat _ d n := hd d hdd
      exact (by omega : ∀ k : Nat, k < n → 8 * k + 8 ≤ 8000) d h1
    · omega
  cases D with
  | skip h =>
    rw [wanted_of hb hud h]
    refine hnext (some (.tup [])) [] ⟨rfl, rfl⟩ _ _ ?_
    obtain ⟨pl, hH, hdf, hn, henv⟩ := R
    have := put_env (dst := o.dst) (x := .tup []) (v := undef) hn hd henv (fun _ _ => ⟨#[], rfl, rfl, fun i c h => by simp at h⟩)
    exact ⟨pl, hH, this.2.1.trans hdf, this.1, this.2.2⟩
  | det h st ha hvc =>
    rw [wanted_of hb hud h, if_pos rfl]
    left
    have := (sim_act hP (by omega) hd R ha hvc).wp Q
    refine Oper.wp_mono (fun a' w' h => ?_) this
    exact hnext _ _ ⟨rfl, rfl⟩ a' w' h
  | call h c ho f caps m bvs post hc hl K hu =>
    rw [wanted_of hb hud h, if_pos rfl]
    left
    refine wp_call hid8 hd R ho hc hl K fun r hout hp => ?_
    obtain ⟨u, hu⟩ := hu r hout hp
    exact ⟨u, hu, fun a' w' h => hnext _ _ ⟨r, hout, hp, rfl, hu⟩ a' w' h⟩

/-! ### Footprints -/
theorem Does.frame (D : Does P tv ops o s e) {v : Option LV} {u : List (Nat × Obj)} (h : e.out v u) {id : Nat} (hid : id ∉ e.wr) : updAt id u = none := by
  cases D with
  | skip _ => obtain ⟨_, rfl⟩ := h; rfl
  | det _ st _ _ => obtain ⟨_, rfl⟩ := h; exact updAt_none hid
  | call _ c ho f caps m bvs post hc hl K hu =>
    obtain ⟨r, hout, hp, _, hu⟩ := h
    refine updAt_none fun hm => hid ?_
    have L := Lend.of hl
    unfold callUpd at hu
    split at hu
    · obtain ⟨_, _, h3, _⟩ := bkH_get (fun k k' id v v' h1 h2 => Option.some.inj ((back_fwd L h1).symm.trans (back_fwd L h2))) hu
      obtain ⟨k, v0, _, hk⟩ := h3 id hm
      have := back_fwd L hk
      rcases fwd_back L this with ⟨_, h1, h2, _⟩ | ⟨h1, _⟩
      · refine List.mem_append_right _ ?_
        have e : id = AM.hid o + (id - AM.hid o) := by omega
        rw [e]
        exact mem_news (by omega)
      · exact List.mem_append_left _ h1
    · cases hu
theorem guard_local (he : ∀ t ∈ o.looksAt ops, getA t s.env = getA t s'.env) : guardE ops s'.env o = guardE ops s.env o := by
  unfold guardE
  split
  · rfl
  · rename_i g want hg
    split
    · rfl
    · rename_i d hd
      have : d ∈ o.looksAt ops := by simp [Oper.looksAt, hg, hd]
      rw [he d this]
theorem ev_local (he : ∀ t ∈ o.looksAt ops, getA t s.env = getA t s'.env) : ∀ x ∈ o.op.operands, s.ev x = s'.ev x := by
  intro x hx
  cases x with
  | tmp t =>
    have : t ∈ o.looksAt ops := List.mem_append_left _ (List.mem_filterMap.2 ⟨.tmp t, by simpa using hx, rfl⟩)
    simp only [St.ev, he t this]
  | _ => rfl

theorem verAt_local {H H' : Heap} {id : Nat} {l : List Nat} (h : SameAt H H' l) (hm : id ∈ l) : verAt H' id = verAt H id := by unfold verAt; rw [h.one hm]
theorem trCaps_local {H H' : Heap} {m : List Nat} (h : SameAt H H' m) : ∀ (l : List (Nat × Nat)), trCaps H' m l = trCaps H m l
  | [] => rfl
  | (id, ver) :: r => by
    simp only [trCaps, trCaps_local h r]
    cases hk : lendIx 8000 m id with
    | none => rfl
    | some k =>
      rw [verAt_local h (List.mem_of_getElem? (lendIx_some hk).2)]
theorem trC_local {H H' : Heap} {m bvs : List Nat} (h : SameAt H H' (m ++ bvs)) (c : C) : trC H' m bvs c = trC H m bvs c := by
  have hm : SameAt H H' m := fun id hid => h id (List.mem_append_left _ hid)
  cases c <;> try rfl
  · rename_i id ver off len
    cases hk : lendIx 8000 m id with
    | none =>
      by_cases hb : id ∈ bvs
      · simp only [trC, hk]
        rw [h.one (List.mem_append_right _ hb)]
      · have : ∀ X : Heap, trC X m bvs (.osl id ver off len) = .bad := by
          intro X
          simp only [trC, hk]
          split
          · rw [if_neg]
            rintro ⟨_, hc⟩
            exact hb (by simpa using hc)
          · rfl
        rw [this, this]
    | some k =>
      simp only [trC, hk]
      rw [verAt_local hm (List.mem_of_getElem? (lendIx_some hk).2)]
  · rename_i id ver j o
    cases hk : lendIx 8000 m id with
    | none => simp only [trC, hk]
    | some k =>
      simp only [trC, hk]
      rw [verAt_local hm (List.mem_of_getElem? (lendIx_some hk).2)]
  · simp only [trC, trCaps_local hm]
theorem trV_local {H H' : Heap} {m bvs : List Nat} (h : SameAt H H' (m ++ bvs)) (x : V) : trV H' m bvs x = trV H m bvs x := by
  cases x with
  | c c => simp only [trV, trC_local h]
  | agg xs => simp only [trV]; rw [List.map_congr_left fun c _ => trC_local h c]
theorem hinOf_local {H H' : Heap} {m bvs : List Nat} (h : SameAt H H' (m ++ bvs)) : ∀ (r : List Nat) (k : Nat), (∀ id ∈ r, id ∈ m) → hinOf H' m bvs k r = hinOf H m bvs k r
  | [], k, _ => rfl
  | id :: r, k, hr => by
    simp only [hinOf, hinOf_local h r (k + 1) fun i hi => hr i (by simp [hi]), h.one (List.mem_append_left _ (hr id (by simp)))]
    have : ∀ ob : Obj, trObj H' m bvs ob = trObj H m bvs ob := by
      intro ob
      cases ob with
      | box v cs => simp only [trObj]; rw [List.map_congr_left fun c _ => trC_local h c]
      | _ => rfl
    rw [this]
theorem lendOk_local {H H' : Heap} {m bvs : List Nat} {id8 : Nat} (h : SameAt H H' (m ++ bvs)) : lendOk H' m bvs id8 = lendOk H m bvs id8 := by
  unfold lendOk
  have : m.all (fun id => ((getA id H').map Obj.live).getD false && !(decide (id8 ≤ id) && decide (id < id8 + 8))) = m.all (fun id => ((getA id H).map Obj.live).getD false && !(decide (id8 ≤ id) && decide (id < id8 + 8))) := by
    rw [Bool.eq_iff_iff]
    simp only [List.all_eq_true]
    exact ⟨fun hh id hid => by rw [← h.one (List.mem_append_left _ hid)]; exact hh id hid, fun hh id hid => by rw [h.one (List.mem_append_left _ hid)]; exact hh id hid⟩
  rw [this]
theorem backId_local {H H' : Heap} {m : List Nat} {id8 : Nat} (h : SameAt H H' (m ++ news id8)) (k : Nat) : backId H' m id8 k = backId H m id8 k := by
  unfold backId
  split
  · split
    · rw [verOf_same (h.one (List.mem_append_right _ (mem_news (by omega))))]
    · rfl
  · split
    · cases hm : m[k - 8000]? with
      | none => rfl
      | some id => simp only [Option.map_some, verAt, h.one (List.mem_append_left _ (List.mem_of_getElem? hm))]
    · rfl
/-- It does the same where what it looks at is the same. -/
theorem Does.local (D : Does P tv ops o s e) (he : ∀ t ∈ o.looksAt ops, getA t s.env = getA t s'.env) (hs : SameAt s.heap s'.heap e.rd) : Does P tv ops o s' e := by
  have hev := ev_local he
  cases D with
  | skip h => exact .skip ((guard_local he).trans h)
  | det h st ha hvc => exact .det ((guard_local he).trans h) st (act_local ha hev hs) hvc
  | call h c ho f caps m bvs post hc hl K hu =>
    have h1 : SameAt s.heap s'.heap (m ++ bvs) := fun id hid => hs id (List.mem_append_left _ hid)
    have h2 : SameAt s.heap s'.heap (m ++ news (hid o)) := fun id hid => hs id (by
      simp only [callEff]
      rcases List.mem_append.1 hid with h | h
      · exact List.mem_append_left _ (List.mem_append_left _ h)
      · exact List.mem_append_right _ h)
    rw [ho] at hev
    simp only [Op.operands, Call.operands] at hev
    have e1 : calleeOf s' c = some (f, caps) := by
      rw [← hc]
      unfold calleeOf
      split
      · rename_i x hx
        rw [show s'.evC x = s.evC x by simp only [St.evC, hev x (by simp [hx])]]
      · rfl
    have e2 : callArgs s' m bvs c caps = callArgs s m bvs c caps := by
      unfold callArgs
      rw [List.map_congr_left (g := fun x => trV s.heap m bvs (s.evV x)) fun x hx => by
        rw [trV_local h1, show s'.evV x = s.evV x by simp only [St.evV, hev x (Array.mem_append.2 (.inr (by simpa using hx)))]]]
      rw [List.map_congr_left (l := caps) (g := fun p => V.c (trC s.heap m bvs (capV p))) fun p _ => by rw [trC_local h1]]
    have e3 : callHin s' m bvs = callHin s m bvs := hinOf_local h1 m 8000 fun _ h => h
    have e4 : ∀ ho, callUpd s'.heap m bvs (hid o) ho = callUpd s.heap m bvs (hid o) ho := fun ho => by
      unfold callUpd
      rw [show backId s'.heap m (hid o) = backId s.heap m (hid o) from funext fun k => backId_local h2 k]
    have e5 : callEff s m bvs (hid o) post = callEff s' m bvs (hid o) post := by
      unfold callEff
      rw [show backId s'.heap m (hid o) = backId s.heap m (hid o) from funext fun k => backId_local h2 k]
      simp only [e4]
    rw [e5]
    exact .call ((guard_local he).trans h) c ho f caps m bvs post e1 ((lendOk_local h1).trans hl) (by rw [e2, e3]; exact K) (fun r ho hp => by rw [e4]; exact hu r ho hp)
/-- A call of a function of the program. -/
def isCall (o : Oper) : Bool :=
  match o.op with
  | .call c => match c.callee with | .value _ => true | _ => false
  | _ => false
theorem Does.only (hn : isCall o = false) (D : Does P tv ops o s e) (D' : Does P tv ops o s e') : e = e' := by
  have nc : ∀ c f caps, o.op = .call c → calleeOf s c = some (f, caps) → False := by
    intro c f caps ho hc
    unfold calleeOf at hc
    split at hc
    · rename_i x hx
      simp [isCall, ho, hx] at hn
    · cases hc
  cases D with
  | skip h =>
    cases D' with
    | skip _ => rfl
    | det h' => rw [h] at h'; cases h'
    | call h' => rw [h] at h'; cases h'
  | det h st ha =>
    cases D' with
    | skip h' => rw [h] at h'; cases h'
    | det h' st' ha' =>
      rw [ha] at ha'
      injection ha' with ha'
      subst ha'
      rfl
    | call _ c ho f caps m bvs post hc => exact (nc c f caps ho hc).elim
  | call _ c ho f caps m bvs post hc => exact (nc c f caps ho hc).elim
theorem Does.one (hn : isCall o = false) (D : Does P tv ops o s e) : ∃ v u, e.out v u ∧ ∀ v' u', e.out v' u' → v' = v ∧ u' = u := by
  cases D with
  | skip h => exact ⟨some (.tup []), [], ⟨rfl, rfl⟩, fun _ _ h => h⟩
  | det h st ha => exact ⟨some st.val, st.upd, ⟨rfl, rfl⟩, fun _ _ h => h⟩
  | call _ c ho f caps m bvs post hc =>
    unfold calleeOf at hc
    split at hc
    · rename_i x hx
      simp [isCall, ho, hx] at hn
    · cases hc
end
end Go.AM
