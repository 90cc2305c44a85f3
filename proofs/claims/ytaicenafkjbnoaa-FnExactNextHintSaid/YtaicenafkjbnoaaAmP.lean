/- The abstract machine: calls of functions. -/
import Derived.Test.YtaicenafkjbnoaaAmO
set_option linter.unusedVariables false
set_option linter.unusedSimpArgs false
set_option linter.unusedSectionVars false
namespace Go.AM

/-- The function that is called, and its captured pointers. -/
def calleeOf (s : St) (c : Call) : Option (FuncId × List (Nat × Nat)) :=
  match c.callee with
  | .value x =>
    match s.evC x with
    | .fn f caps => some (f, caps)
    | _ => none
  | _ => none
def capV (p : Nat × Nat) : C := .ptr p.1 p.2 0 0
/-- What the called function is handed. -/
def callArgs (s : St) (m bvs : List Nat) (c : Call) (caps : List (Nat × Nat)) : List V :=
  c.args.toList.map (fun x => trV s.heap m bvs (s.evV x)) ++ caps.map fun p => .c (trC s.heap m bvs (capV p))
def callHin (s : St) (m bvs : List Nat) : Heap := hinOf s.heap m bvs 8000 m
/-- The state after the call. -/
def callSt (s : St) (m bvs : List Nat) (id8 : Nat) (dst : Option Tmp) (r : LV) (u : List (Nat × Obj)) : St :=
  ⟨putE dst (bkLV (backId s.heap m id8) bvs.isEmpty r) s.env, updH u s.heap⟩

section
variable {P : Program} {E : Ent} {n : Nat} {s : St} {a : Act} {w : World} {id8 : Nat}
theorem run_callFunc_enter {f : FuncId} {fn : Func} {args : Array Value} (hf : P.funcs[f]? = some fn) (hb : fn.body.isNone = false) (hn : (fn.name == "runtime.NumGoroutine") = false) :
    (callFunc f args).run P w = .ok (.enter f args) w := by
  have hb' : fn.body ≠ none := fun h => by rw [h] at hb; cases hb
  have hn' : fn.name ≠ "runtime.NumGoroutine" := by simpa using hn
  simp [callFunc, hf, hb', hn']
theorem cap_in {H : Heap} {pl : Pl} {m bvs : List Nat} (hH : HR E H pl w) (L : Lend H m bvs id8) {p : Nat × Nat} {u : Value} (h : ptrR H pl p.1 p.2 0 0 u) :
    CR (entIn E H pl w m bvs).b (hinOf H m bvs 8000 m) (plIn pl m) w (trC H m bvs (capV p)) u := by
  simp only [trC, capV]
  split
  · rename_i k hk
    split
    · rename_i hv
      refine ⟨?_, ptr_in L hk hv h⟩
      obtain ⟨h1, h2⟩ := lendIx_some hk
      obtain ⟨ob, ho, hl⟩ := L.live _ (List.mem_of_getElem? h2)
      unfold ptrR at h
      rw [ho] at h
      simp only [verAt, ho, Option.map_some, Option.some.injEq] at hv
      cases ob with
      | box v' cs =>
        obtain ⟨_, b, _, hu⟩ := h.2 hv.symm
        exact ⟨_, hu⟩
      | arr v' fr d =>
        obtain ⟨b, _, hu⟩ := h.2 hv.symm
        exact ⟨_, hu⟩
      | dead v' => simp [Obj.live] at hl
    · trivial
  · trivial

theorem wp_call {m bvs : List Nat} (hid : id8 + 8 ≤ 8000) {o : Oper} (hd : ∀ d, o.dst = some d → d < n) (R : Rel E n s a w) {c : Call} (ho : o.op = .call c)
    {f : FuncId} {caps : List (Nat × Nat)} (hc : calleeOf s c = some (f, caps)) (hl : lendOk s.heap m bvs id8 = true) {post : LV → Heap → Prop}
    (K : CallsA P f (callArgs s m bvs c caps) (callHin s m bvs) post) {next : Act → World → Prop} {Q : Exit → Act → World → Prop}
    (hnext : ∀ r hout, post r hout → ∃ u, callUpd s.heap m bvs id8 hout = some u ∧ ∀ a' w', Rel E n (callSt s m bvs id8 o.dst r u) a' w' → next a' w') :
    o.wp P a w next Q := by
  obtain ⟨pl, hH, hdf, hn, henv⟩ := R
  have L := Lend.of hl
  unfold calleeOf at hc
  split at hc
  · rename_i x hx
    split at hc
    · rename_i f' caps' hfx
      have hc := Option.some.inj hc
      simp only [Prod.mk.injEq] at hc
      obtain ⟨rfl, rfl⟩ := hc
      have hfv := ev_c henv x
      rw [hfx] at hfv
      obtain ⟨cs, hv, hlen, hcs⟩ := hfv
      obtain ⟨fn, h1, h2, h3⟩ := K.body
      have hrun : (execOp a.eval o).run P w = .ok (.enter f' (c.args.map a.eval ++ cs.toArray)) w := by
        unfold execOp
        rw [ho]
        simp only [resolve, hx, hv, Deferred.ofValue, Sem.run_bind, Sem.run_pure, Result.andThen_ok, invoke]
        rw [run_callFunc_enter h1 h2 h3]
        simp
      unfold Oper.wp
      rw [hrun, Oper.upon_enter]
      refine (K.run w (plIn pl m) (XIn E s.heap pl m bvs) (c.args.map a.eval ++ cs.toArray) (hr_in hH L) ?_ ?_).mono ?_
      · simp [callArgs, hlen]
      · intro i y hy
        unfold callArgs at hy
        rw [List.getElem?_append] at hy
        split at hy
        · rename_i hlt
          rw [List.getElem?_map, Option.map_eq_some_iff] at hy
          obtain ⟨x', hx', rfl⟩ := hy
          refine ⟨a.eval x', ?_, vr_in hH L (ev_v henv x')⟩
          have hlt' : i < c.args.size := by simpa using hlt
          rw [Array.getElem?_append_left (by simpa using hlt')]
          rw [Array.getElem?_toList] at hx'
          simp [hx']
        · rename_i hge
          rw [List.getElem?_map, Option.map_eq_some_iff] at hy
          obtain ⟨p, hp, rfl⟩ := hy
          have hge' : c.args.size ≤ i := by simpa using hge
          have hpp : caps'[i - c.args.size]? = some p := by simpa using hp
          obtain ⟨u, hu, hr⟩ := hcs (i - c.args.size) p.1 p.2 (by rw [hpp])
          refine ⟨u, ?_, ?_⟩
          · rw [Array.getElem?_append_right (by simpa using hge')]
            simpa using hu
          · exact cap_in hH L hr
      · rintro e w' ⟨v, r, hout, pc, rfl, hp, hC, hr⟩
        obtain ⟨u, hu, hk⟩ := hnext r hout hp
        obtain ⟨pl', B⟩ := back_of hid L hH hC hu
        refine hk _ _ ⟨pl', B.hr, ?_⟩
        have henv' : ∀ t lv, getA t s.env = some lv → LVR E.b (updH u s.heap) pl' w' lv (a.tmps.getD t undef) := fun t lv ht => B.evo.lvr (henv t lv ht)
        have := put_env (dst := o.dst) (v := v) hn hd henv' (fun _ _ => B.lvr hr)
        exact ⟨this.2.1.trans hdf, this.1, this.2.2⟩
    · cases hc
  · cases hc
end
end Go.AM
