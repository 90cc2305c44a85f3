/- The abstract machine: the types of a program; the rules of a region; how its steps are worked out; contracts used where more is known. -/
import Derived.Test.YtaicenafkjbnoaaAmU
import Derived.KernelRfl
import Derived.Laws.BitsLemmas
set_option linter.unusedVariables false
set_option linter.unusedSimpArgs false
set_option linter.unusedSectionVars false
namespace Go.AM

def zcOf : Value → C
  | .int k n => .int k n
  | .bool b => .bool b
  | .string s => .str s
  | .slice none 0 0 => .nil
  | _ => .bad
theorem zc_of (v : Value) : ZC (zcOf v) v := by
  unfold zcOf
  split <;> simp [ZC]
def kOf (P : Program) : TypeDesc → Option TK
  | .int k => some (.int k)
  | .bool => some .bool
  | .string => some .str
  | .slice e => some (.slice e)
  | .pointer _ => some .ptr
  | .struct fs => if fs.toList.all (fun f => (P.info? f.type).isSome) then some (.struct (fs.toList.map fun f => (f.offset, f.type))) else none
  | .array n e => some (.array n e)
  | .func _ _ _ => some .func
  | _ => some .other
def tyOf (P : Program) (t : TypeId) : Option Ty :=
  match P.info? t, P.underlying t with
  | some i, some d =>
    match i.zero, kOf P d with
    | some z, some k => if z.cells.size = i.size then some ⟨k, i.size, i.bytes, z.cells.toList.map zcOf⟩ else none
    | _, _ => none
  | _, _ => none
theorem tyOf_ok (P : Program) : TVOk P (tyOf P) := by
  intro t ty h
  unfold tyOf at h
  split at h
  · rename_i i d hi hd
    split at h
    · rename_i z k hz hk
      split at h
      · rename_i hs
        injection h with h
        subst h
        refine ⟨⟨i, d, z, hi, hd, rfl, rfl, hz, by simp, fun j c hj => ?_, ?_, ?_⟩, by simpa using hs⟩
        · rw [List.getElem?_map, Option.map_eq_some_iff] at hj
          obtain ⟨v, h1, rfl⟩ := hj
          exact ⟨v, by simpa using h1, zc_of v⟩
        · cases d <;> simp only [kOf, Option.some.injEq] at hk <;> try (subst hk; first | rfl | exact ⟨_, rfl⟩ | exact ⟨_, _, _, rfl⟩ | trivial)
          split at hk
          · rename_i fs hall
            injection hk with hk
            subst hk
            refine ⟨fs, rfl, by simp, fun i off t hi => ?_⟩
            rw [List.getElem?_map, Option.map_eq_some_iff] at hi
            obtain ⟨f, h1, h2⟩ := hi
            simp only [Prod.mk.injEq] at h2
            have h1' : fs[i]? = some f := by simpa using h1
            refine ⟨f, h1', h2.1, h2.2, ?_⟩
            simp only [List.all_eq_true] at hall
            rw [← h2.2]
            exact hall f (List.mem_of_getElem? h1)
          · cases hk
        · cases d <;> simp only [kOf, Option.some.injEq] at hk <;> try (subst hk; rfl)
          split at hk
          · injection hk with hk
            subst hk
            rfl
          · cases hk
      · cases h
    · cases h
  · cases h
theorem prog_of {P : Program} (h : P.follows .mixedOrders = true) : Prog P (tyOf P) := ⟨tyOf_ok P, h⟩

/-- The state may be told in other words. -/
def Weak (s s0 : St) : Prop := ∀ E n a w, Rel E n s a w → Rel E n s0 a w
def Up (K : St → Prop) (s : St) : Prop := ∃ s0, Weak s s0 ∧ K s0
theorem Up.eqv {K : St → Prop} (s s' : St) (h : Up K s) (he : Eqv s s') : Up K s' := by
  obtain ⟨s0, hs, hk⟩ := h
  exact ⟨s0, fun E n a w R => hs E n a w (R.eqv he.symm), hk⟩

/-- What is left of a region. -/
def WS (P : Program) (tv : TV) (ops : Array Oper) (dr : Bool) (l : List (Nat × Oper)) (acc : List (Nat × List Nat × List Nat)) (K : St → Prop) (s : St) : Prop :=
  (∀ p ∈ l, ops[p.1]? = some p.2) → WR P tv ops dr (l.map (·.1)) acc (Up K) s
def numd (k : Nat) : List Oper → List (Nat × Oper)
  | [] => []
  | o :: r => (k, o) :: numd (k + 1) r
/-- A plain operation's outcome: its condition, the state, what it looked at and what it wrote. -/
def stepD (tv : TV) (s : St) (o : Oper) : Option (Prop × St × List Nat × List Nat) :=
  match act tv s (hid o) o.op with
  | some st => some (st.vc, outSt s o.dst (some st.val) st.upd, st.rd, st.upd.map (·.1))
  | none => none
def callNext (s : St) (m bvs : List Nat) (o : Oper) (r : LV) (hout : Heap) : Option St :=
  match callUpd s.heap m bvs (hid o) hout with
  | some u => some (callSt s m bvs (hid o) o.dst r u)
  | none => none

section
variable {P : Program} {tv : TV} {ops : Array Oper} {n : Nat} {s : St} {Q : Exit → St → Prop} {K : St → Prop} {l r : List (Nat × Oper)} {i : Nat} {o : Oper} {acc : List (Nat × List Nat × List Nat)} {dr : Bool}
theorem WR.free : ∀ {l : List Nat} {acc acc' : List (Nat × List Nat × List Nat)} {s : St}, WR P tv ops false l acc K s → WR P tv ops false l acc' K s
  | [], _, _, _, h => h
  | i :: r, _, _, _, ⟨o, e, ho, D, hd, hk⟩ => ⟨o, e, ho, D, fun h => (Bool.noConfusion h), fun v u h => (hk v u h).free⟩
theorem WS.done (ts ls : List Nat) {s0 : St} (ht : tidy ts ls s = some s0) (h : K s0) : WS P tv ops dr [] acc K s := fun _ => ⟨_, fun E n a w R => R.tidy ht, h⟩
theorem WS.keep (ts : List Nat) (h : K ⟨keepE ts s.env, s.heap⟩) : WS P tv ops dr [] acc K s := fun _ => ⟨_, fun E n a w R => by
  obtain ⟨pl, hH, hdf, hn, henv⟩ := R
  exact ⟨pl, hH, hdf, hn, fun t lv ht => henv t lv (keepE_get ts s.env t lv ht)⟩, h⟩
theorem WS.weak {s0 : St} (ht : Weak s s0) (h : K s0) : WS P tv ops dr [] acc K s := fun _ => ⟨_, ht, h⟩
theorem WS.eqv {s' : St} (h : WS P tv ops dr l acc K s') (he : Eqv s' s) : WS P tv ops dr l acc K s := fun hl => (h hl).eqv Up.eqv he fun _ h => h
/-- One of the state's truth values is looked at. -/
theorem WS.cases (d : Nat) {b : Bool} (hb : getA d s.env = some (.v (.c (.bool b)))) (h1 : b = true → WS P tv ops dr l acc K ⟨(d, .v (.c (.bool true))) :: s.env, s.heap⟩)
    (h0 : b = false → WS P tv ops dr l acc K ⟨(d, .v (.c (.bool false))) :: s.env, s.heap⟩) : WS P tv ops dr l acc K s := by
  have key : ∀ x, b = x → WS P tv ops dr l acc K ⟨(d, .v (.c (.bool x))) :: s.env, s.heap⟩ → WS P tv ops dr l acc K s := by
    rintro x rfl h
    refine h.eqv ⟨fun t => ?_, fun _ => rfl⟩
    simp only [getA]
    split
    · rename_i e
      rw [← e, hb]
    · rfl
  cases b with
  | true => exact key true rfl (h1 rfl)
  | false => exact key false rfl (h0 rfl)
theorem WS.detD {vc : Prop} {s' : St} {rd wr : List Nat} (hg : guardE ops s.env o = some true) (ha : stepD tv s o = some (vc, s', rd, wr)) (hvc : vc) (hap : apartB ops i acc rd wr = true)
    (h : WS P tv ops true r ((i, rd, wr) :: acc) K s') : WS P tv ops true ((i, o) :: r) acc K s := by
  intro hl
  unfold stepD at ha
  split at ha
  · rename_i st hst
    have ha := Option.some.inj ha
    simp only [Prod.mk.injEq] at ha
    obtain ⟨rfl, rfl, rfl, rfl⟩ := ha
    refine ⟨o, _, hl (i, o) (by simp), .det hg st hst hvc, fun _ => ⟨hap, _, _, rfl, rfl⟩, fun v u hvu => ?_⟩
    obtain ⟨rfl, rfl⟩ := hvu
    exact h fun p hp => hl p (by simp [hp])
  · cases ha
theorem WS.detN {vc : Prop} {s' : St} {rd wr : List Nat} (hg : guardE ops s.env o = some true) (ha : stepD tv s o = some (vc, s', rd, wr)) (hvc : vc)
    (h : WS P tv ops false r [] K s') : WS P tv ops false ((i, o) :: r) acc K s := by
  intro hl
  unfold stepD at ha
  split at ha
  · rename_i st hst
    have ha := Option.some.inj ha
    simp only [Prod.mk.injEq] at ha
    obtain ⟨rfl, rfl, rfl, rfl⟩ := ha
    refine ⟨o, _, hl (i, o) (by simp), .det hg st hst hvc, fun h => (Bool.noConfusion h), fun v u hvu => ?_⟩
    obtain ⟨rfl, rfl⟩ := hvu
    exact WR.free (h fun p hp => hl p (by simp [hp]))
  · cases ha
theorem WS.skipD (hg : guardE ops s.env o = some false) (hap : apartB ops i acc [] [] = true) (h : WS P tv ops true r ((i, [], []) :: acc) K (outSt s o.dst (some (.tup [])) [])) : WS P tv ops true ((i, o) :: r) acc K s := by
  intro hl
  refine ⟨o, _, hl (i, o) (by simp), .skip hg, fun _ => ⟨hap, _, _, rfl, rfl⟩, fun v u hvu => ?_⟩
  obtain ⟨rfl, rfl⟩ := hvu
  exact h fun p hp => hl p (by simp [hp])
theorem WS.skipN (hg : guardE ops s.env o = some false) (h : WS P tv ops false r [] K (outSt s o.dst (some (.tup [])) [])) : WS P tv ops false ((i, o) :: r) acc K s := by
  intro hl
  refine ⟨o, _, hl (i, o) (by simp), .skip hg, fun h => (Bool.noConfusion h), fun v u hvu => ?_⟩
  obtain ⟨rfl, rfl⟩ := hvu
  exact WR.free (h fun p hp => hl p (by simp [hp]))
theorem WS.callD (m bvs : List Nat) {c : Call} {f : FuncId} {caps : List (Nat × Nat)} {post : LV → Heap → Prop} (hg : guardE ops s.env o = some true) (ho : o.op = .call c) (hc : calleeOf s c = some (f, caps))
    (hl : lendOk s.heap m bvs (hid o) = true) (C : CallsA P f (callArgs s m bvs c caps) (callHin s m bvs) post) (hap : apartB ops i acc (m ++ bvs ++ news (hid o)) (m ++ news (hid o)) = true) (hne : ∃ x ho, post x ho)
    (h : ∀ x hout, post x hout → ∃ s', callNext s m bvs o x hout = some s' ∧ WS P tv ops true r ((i, m ++ bvs ++ news (hid o), m ++ news (hid o)) :: acc) K s') : WS P tv ops true ((i, o) :: r) acc K s := by
  intro hh
  have hu : ∀ x hout, post x hout → ∃ u, callUpd s.heap m bvs (hid o) hout = some u := fun x hout hp => by
    obtain ⟨s', h1, _⟩ := h x hout hp
    unfold callNext at h1
    split at h1
    · exact ⟨_, by assumption⟩
    · cases h1
  refine ⟨o, _, hh (i, o) (by simp), .call hg c ho f caps m bvs post hc hl C hu, fun _ => ⟨hap, ?_⟩, fun v u hvu => ?_⟩
  · obtain ⟨x, hout, hp⟩ := hne
    obtain ⟨u, hu⟩ := hu x hout hp
    exact ⟨_, _, x, hout, hp, rfl, hu⟩
  · obtain ⟨x, hout, hp, rfl, hu'⟩ := hvu
    obtain ⟨s', h1, h2⟩ := h x hout hp
    unfold callNext at h1
    rw [hu'] at h1
    have h1 := Option.some.inj h1
    subst h1
    exact h2 fun p hp => hh p (by simp [hp])
theorem WS.callN (m bvs : List Nat) {c : Call} {f : FuncId} {caps : List (Nat × Nat)} {post : LV → Heap → Prop} (hg : guardE ops s.env o = some true) (ho : o.op = .call c) (hc : calleeOf s c = some (f, caps))
    (hl : lendOk s.heap m bvs (hid o) = true) (C : CallsA P f (callArgs s m bvs c caps) (callHin s m bvs) post)
    (h : ∀ x hout, post x hout → ∃ s', callNext s m bvs o x hout = some s' ∧ WS P tv ops false r [] K s') : WS P tv ops false ((i, o) :: r) acc K s := by
  intro hh
  have hu : ∀ x hout, post x hout → ∃ u, callUpd s.heap m bvs (hid o) hout = some u := fun x hout hp => by
    obtain ⟨s', h1, _⟩ := h x hout hp
    unfold callNext at h1
    split at h1
    · exact ⟨_, by assumption⟩
    · cases h1
  refine ⟨o, _, hh (i, o) (by simp), .call hg c ho f caps m bvs post hc hl C hu, fun h => (Bool.noConfusion h), fun v u hvu => ?_⟩
  obtain ⟨x, hout, hp, rfl, hu'⟩ := hvu
  obtain ⟨s', h1, h2⟩ := h x hout hp
  unfold callNext at h1
  rw [hu'] at h1
  have h1 := Option.some.inj h1
  subst h1
  exact WR.free (h2 fun p hp => hh p (by simp [hp]))
theorem numd_get : ∀ (l : List Oper) (k : Nat) p, p ∈ numd k l → k ≤ p.1 ∧ l[p.1 - k]? = some p.2
  | [], k, p, h => by simp [numd] at h
  | o :: r, k, p, h => by
    simp only [numd, List.mem_cons] at h
    rcases h with rfl | h
    · simp
    · obtain ⟨h1, h2⟩ := numd_get r (k + 1) p h
      refine ⟨by omega, ?_⟩
      have : p.1 - k = (p.1 - (k + 1)) + 1 := by omega
      rw [this]
      simpa using h2
theorem numd_map : ∀ (l : List Oper) (k : Nat), (numd k l).map (·.1) = List.range' k l.length
  | [], k => rfl
  | o :: r, k => by simp [numd, numd_map r (k + 1), List.range'_succ]
/-- Where two ways meet. -/
theorem WP.cut {x y : Code} (M : St → Prop) (h : WP P n x (ThenQ M Q) s) (h' : ∀ s, M s → WP P n y Q s) : WP P n (.seq x y) Q s := WP.seq (h.mono fun e s hs => by cases e <;> first | exact h' s hs | exact hs)
theorem WP.tidy {c : Code} {s0 : St} (ts ls : List Nat) (ht : tidy ts ls s = some s0) (h : WP P n c Q s0) : WP P n c Q s := h.weak fun E a w R => R.tidy ht
theorem WP.reg (hP : Prog P tv) {id : Nat} {ops : List Oper} (hb : regB ops.toArray dr n = true) (h : WS P tv ops.toArray dr (numd 0 ops) [] (Q .normal) s) : WP P n (.region id ops.toArray dr) Q s := by
  have h1 := h fun p hp => by
    have := (numd_get ops 0 p hp).2
    simpa using this
  rw [numd_map] at h1
  have h2 : WP P n (.region id ops.toArray dr) (fun e s => match e with | .normal => Up (Q .normal) s | _ => False) s := by
    refine WP.region hP hb ?_
    rw [List.range_eq_range']
    simpa using h1
  intro E a w R
  refine wp_mono (h2 E a w R) fun e a' w' ⟨s', h3, R'⟩ => ?_
  cases e <;> try exact h3.elim
  obtain ⟨s0, hs, hq⟩ := h3
  exact ⟨s0, hq, hs E n a' w' R'⟩
end

attribute [simp] TK.agg constC St.ev St.evC St.evV LV.one V.one shiftOp arithC strC binC ofD rowD rowD0 scalD frzD frzDs mkRow mkZero zeroDs pureS newBox newArr killL noBad okV allB setCs loadCs verOf fieldsOf elemTy fillCs litRows rdOf sliceC lenC capsOf nodupB appendS pickLV
  actPick actBox actAlloc actBuild actBuildSlice actLoad storeArr actStore actNil actUn convInt convStr actConv actMakeSlice sliceRow sliceStr actSlice actFieldAddr actField idxSlice idxArr actIdxAddr actIndex actExtract actLen actMax actBuiltin actCall actFunc evParts defI act
  V.cells getA setA delA outSt setE putE delE updH guardE stepD hid numd keepE tidy lvLV envOf ThenQ BlockQ isCall callNext callUpd callSt calleeOf capV callArgs callHin hinOf trC trV trObj trCaps lendIx verAt bkC bkV bkLV bkObj bkH bkCaps backId lvC lvV lvObj ver0 lvLent lvExp lvH resV resVs lvRes lendOk D.flatRow D.flat D.len D.at_ D.es D.cut D.app D.setAt D.isRow
/-- One plain step, its outcome named once. -/
abbrev Out := Prop × St × List Nat × List Nat
section
variable {P : Program} {tv : TV} {ops : Array Oper} {s : St} {K : St → Prop} {r : List (Nat × Oper)} {i : Nat} {o : Oper} {acc : List (Nat × List Nat × List Nat)}
theorem WS.n {p : Out} (hg : guardE ops s.env o = some true) (ha : stepD tv s o = some p) (hvc : p.1) (h : WS P tv ops false r [] K p.2.1) : WS P tv ops false ((i, o) :: r) acc K s := WS.detN hg ha hvc h
theorem WS.d {p : Out} (hg : guardE ops s.env o = some true) (ha : stepD tv s o = some p) (hvc : p.1) (hap : apartB ops i acc p.2.2.1 p.2.2.2 = true) (h : WS P tv ops true r ((i, p.2.2.1, p.2.2.2) :: acc) K p.2.1) : WS P tv ops true ((i, o) :: r) acc K s := WS.detD hg ha hvc hap h
theorem DoneQ.ret {results : Array ResultVar} {hin : Heap} {post : LV → Heap → Prop} (ms : List Nat) {vs : List V} {ho : Heap} (h1 : resVs tv s results.toList = some vs) (h2 : lvH s.heap (hin.map (·.1)) ms = some ho)
    (h3 : post (lvRes s.heap (hin.map (·.1)) ms vs) ho) : DoneQ tv results hin post .ret s := ⟨_, ho, ⟨ms, vs, h1, h2, rfl⟩, h3⟩
theorem wrap_id {n : Int} (h0 : -9223372036854775808 ≤ n) (h1 : n < 9223372036854775808) : IntKind.i64.wrap n = n := by rw [IntKind.wrap_i64]; omega
end

def LeC (c c' : C) : Prop := ∀ B H pl w v, CR B H pl w c v → CR B H pl w c' v
def LeV (x x' : V) : Prop := ∀ B H pl w v, VR B H pl w x v → VR B H pl w x' v
def LeVs : List V → List V → Prop
  | [], [] => True
  | x :: r, y :: s => LeV x y ∧ LeVs r s
  | _, _ => False
theorem LeC.refl (c : C) : LeC c c := fun _ _ _ _ _ h => h
theorem LeV.refl (x : V) : LeV x x := fun _ _ _ _ _ h => h
theorem LeC.fresh (d : D) : LeC (.dsl true d) (.dsl false d) := fun _ _ _ _ _ h => ⟨h.1, h.2.mono fun _ _ hz => ⟨zone_false hz, rfl⟩⟩
theorem LeC.nil (fr : Bool) {d : D} {es : Nat} (h : d.elems = some (es, [])) (hes : 0 < es) : LeC .nil (.dsl fr d) := by
  intro B H pl w v hv
  obtain rfl : v = .slice none 0 0 := hv
  exact ⟨elems_row h, .slice none 0 0 d es [] h rfl (Nat.le_refl _) hes (by simp) ⟨0, 0, none⟩ (fun _ _ => undef) (fun h => absurd h (by omega)) (fun j o hj => absurd hj (by omega)) (fun j o e h => by simp at h)⟩
theorem LeC.bad (c : C) : LeC c .bad := fun _ _ _ _ _ _ => trivial
theorem LeV.c {c c' : C} (h : LeC c c') : LeV (.c c) (.c c') := fun B H pl w v hv => h B H pl w v hv
def LeCs : List C → List C → Prop
  | [], [] => True
  | x :: r, y :: s => LeC x y ∧ LeCs r s
  | _, _ => False
theorem LeCs.get : ∀ {l m : List C}, LeCs l m → l.length = m.length ∧ ∀ (i : Nat) c, m[i]? = some c → ∃ c', l[i]? = some c' ∧ LeC c' c
  | [], [], _ => ⟨rfl, fun i c h => by simp at h⟩
  | x :: r, y :: s, h => by
    obtain ⟨h1, h2⟩ := LeCs.get h.2
    refine ⟨by simp [h1], fun i c hi => ?_⟩
    cases i with
    | zero => simp at hi; exact ⟨x, by simp, hi ▸ h.1⟩
    | succ i => simpa using h2 i c (by simpa using hi)
  | [], _ :: _, h => h.elim
  | _ :: _, [], h => h.elim
theorem LeV.agg {l m : List C} (h : LeCs l m) : LeV (.agg l) (.agg m) := by
  intro B H pl w v ⟨cs, hv, hl, hcs⟩
  obtain ⟨h1, h2⟩ := h.get
  refine ⟨cs, hv, hl.trans h1, fun i c hi => ?_⟩
  obtain ⟨c', g1, g2⟩ := h2 i c hi
  obtain ⟨u, hu, hr⟩ := hcs i c' g1
  exact ⟨u, hu, g2 _ _ _ _ _ hr⟩
theorem LeVs.get : ∀ {l m : List V}, LeVs l m → l.length = m.length ∧ ∀ (i : Nat) x, m[i]? = some x → ∃ x', l[i]? = some x' ∧ LeV x' x
  | [], [], _ => ⟨rfl, fun i c h => by simp at h⟩
  | x :: r, y :: s, h => by
    obtain ⟨h1, h2⟩ := LeVs.get h.2
    refine ⟨by simp [h1], fun i c hi => ?_⟩
    cases i with
    | zero => simp at hi; exact ⟨x, by simp, hi ▸ h.1⟩
    | succ i => simpa using h2 i c (by simpa using hi)
  | [], _ :: _, h => h.elim
  | _ :: _, [], h => h.elim
/-- A contract holds of arguments of which more is known. -/
theorem CallsA.args {P : Program} {f : FuncId} {args args' : List V} {hin : Heap} {post : LV → Heap → Prop} (h : CallsA P f args' hin post) (hle : LeVs args args') : CallsA P f args hin post := by
  obtain ⟨h1, h2⟩ := hle.get
  refine ⟨h.body, fun w pl X vs hH hvs hargs => h.run w pl X vs hH (hvs.trans h1) fun i x hi => ?_⟩
  obtain ⟨x', g1, g2⟩ := h2 i x hi
  obtain ⟨u, hu, hr⟩ := hargs i x' g1
  exact ⟨u, hu, g2 _ _ _ _ _ hr⟩
theorem CallsA.at {P : Program} {f : FuncId} {args args' : List V} {hin hin' : Heap} {post : LV → Heap → Prop} (h : args = args') (h' : hin = hin') (K : CallsA P f args' hin' post) : CallsA P f args hin post := by subst h; subst h'; exact K
end Go.AM
