/- Contracts: the ways of a rule (program). -/
import Derived.Test.YtaicenafkjbnoaaC8
set_option linter.unusedVariables false
set_option linter.unusedSimpArgs false
namespace Go.Proofs.Ytaicenafkjbnoaa
open Go Go.AM
set_option maxRecDepth 100000

theorem ruleOk_iff {r : Rule} {n : Int} : ruleOk r n = true ↔ 2 ≤ n ∧ n ≤ 4 ∧ (∀ c ∈ r.cells, 0 ≤ c ∧ c < n * n) ∧ r.cells.Nodup ∧ kindOk r n = true := by
  simp [ruleOk, inGrid, and_assoc]
theorem kindOk_facts {r : Rule} {n : Int} (h : kindOk r n = true) : (1 ≤ r.kind ∧ r.kind ≤ 5) ∧ (r.kind = 4 ∨ r.kind = 5 → r.cells.length = 2) ∧ 1 ≤ r.cells.length ∧ r.cells.length ≤ 4 := by
  unfold kindOk at h
  split at h
  · simp at h; omega
  · split at h
    · simp at h; omega
    · split at h
      · simp at h; omega
      · split at h
        · simp at h; omega
        · cases h
theorem wayPre {r : Rule} {ms : List Int} {n : Int} (hr : ruleOk r n = true) (hm : masksOk ms n = true) : WayPre r ms := by
  obtain ⟨h2, h4, hc, hnd, hk⟩ := ruleOk_iff.1 hr
  obtain ⟨k1, k2, k3, k4⟩ := kindOk_facts hk
  obtain ⟨_, _, hl, hall⟩ := masksOk_iff.1 hm
  exact ⟨k1, k2, k4, fun c h => by have := hc c h; omega, fun m h => maskOk4 h2 h4 (hall m h), (masks_len hm).2⟩
theorem rule_len {r : Rule} {n : Int} (hr : ruleOk r n = true) : 1 ≤ r.cells.length ∧ r.cells.length ≤ 4 := (kindOk_facts (ruleOk_iff.1 hr).2.2.2.2).2.2
theorem waysAt_all (r : Rule) (ms : List Int) : waysAt r ms [] (List.replicate r.cells.length 0) = ruleMasks r (ownOf r ms) := by
  simp [waysAt, ruleMasks, ownOf, List.map_map, Function.comp_def]
theorem fok_zero (n : Nat) : FOk n (List.replicate n 0) := ⟨by simp, fun x hx => by have := List.eq_of_mem_replicate hx; omega⟩
theorem c_specRuleValid_ok (r : Rule) (n : Int) (hr : ruleOk r n = true) : CallsA Try.prog 122 [r.v false, .c (.int .i64 (n))] [] fun x ho => ho = [] ∧ x = .v (.c (.bool (true))) := by
  have h := c_specRuleValid r n (by have := rule_len hr; omega)
  rwa [hr] at h
theorem c_implRuleValid_ok (r : Rule) (n : Int) (hr : ruleOk r n = true) : CallsA Try.prog 119 [r.v false, .c (.int .i64 (n))] [] fun x ho => ho = [] ∧ x = .v (.c (.bool (true))) := by
  have h := c_implRuleValid r n (by have := rule_len hr; omega)
  rwa [hr] at h
theorem c_specGridValid_ok (g : List Int) (n : Int) (hg : gridOk g n = true) : CallsA Try.prog 77 [.c (.dsl false (.ints .i64 (g))), .c (.int .i64 (n))] [] fun x ho => ho = [] ∧ x = .v (.c (.bool (true))) := by
  have h := c_specGridValid g n (by have := grid_len hg; omega)
  rwa [hg] at h
theorem c_implGridValid_ok (g : List Int) (n : Int) (hg : gridOk g n = true) : CallsA Try.prog 74 [.c (.dsl false (.ints .i64 (g))), .c (.int .i64 (n))] [] fun x ho => ho = [] ∧ x = .v (.c (.bool (true))) := by
  have h := c_implGridValid g n (by have := grid_len hg; omega)
  rwa [hg] at h
theorem set_take {α : Type} {l : List α} {q : Nat} {x : α} (h : q < l.length) : (l.set q x).take (q + 1) = l.take q ++ [x] := by
  rw [take_snoc (x := x) (by rw [List.getElem?_set_self h])]
  congr 1
  apply List.ext_getElem?
  intro i
  rw [List.getElem?_take, List.getElem?_take]
  split
  · rw [List.getElem?_set_ne (by omega)]
  · rfl
theorem c_specRuleMasks (r : Rule) (ms : List Int) (n : Int) (hr : ruleOk r n = true) (hm : masksOk ms n = true) : CallsA Try.prog 162 [r.v false, .c (.dsl false (.ints .i64 (ms))), .c (.int .i64 (n))] [] fun x ho => ho = [] ∧ x = .v (.c (.dsl true (.ints .i64 (ruleMasks r (ownOf r ms))))) := by
  have hp := wayPre hr hm
  have hlen := rule_len hr
  have hml := hp.mlen
  unfold Rule.v
  refine CallsA.of (tv := tyOf Try.prog) (fn := Try.f162) prg.tv Try.func162 rfl rfl (by simp) ?_
  refine WP.seq ?_
  refine WP.regN prg (by kernel_rfl) ?_ -- region 0
  refine WN.op prg (by simp) (by simp; rfl) (by simp) ?_
  refine WN.op prg (by simp) (by simp; rfl) (by simp) ?_
  refine WN.keep [1, 2, 3] ?_
  refine WP.seq ?_
  refine WP.seq ?_
  refine WP.regN prg (by kernel_rfl) ?_ -- region 1
  refine WN.op prg (by simp) (by simp; rfl) (by first | (simp; done) | (simp; omega)) ?_
  refine WN.op prg (by simp) (by simp; rfl) (by simp) ?_
  refine WN.call prg [] [] (by simp) rfl (by simp; rfl) (by simp) (CallsA.at (by simp) (by simp) (c_specRuleValid_ok r n hr)) ?_
  rintro _ _ ⟨rfl, rfl⟩
  refine ⟨_, by simp; rfl, ?_⟩
  refine WN.op prg (by simp) (by simp; rfl) (by simp) ?_
  refine WN.op prg (by simp) (by simp; rfl) (by simp) ?_
  apply WN.join (t := 17) 5 12
  · first | rfl | (simp; rfl)
  · intro hg12
    refine WN.skip prg (by simp) ?_
    refine WN.skip prg (by simp) ?_
    refine WN.skip prg (by simp) ?_
    refine WN.skip prg (by simp) ?_
    refine WN.op prg (by simp) (by simp; rfl) (by simp) ?_
    exact WN.keep [17, 1, 3] rfl
  · intro hg12
    refine WN.op prg (by simp) (by simp; rfl) (by simp) ?_
    refine WN.op prg (by simp) (by simp; rfl) (by simp) ?_
    refine WN.call prg [] [] (by simp) rfl (by simp; rfl) (by simp) (CallsA.at (by simp) (by simp) (c_specMasksValid ms n hm)) ?_
    rintro _ _ ⟨rfl, rfl⟩
    refine ⟨_, by simp; rfl, ?_⟩
    refine WN.op prg (by simp) (by simp; rfl) (by simp) ?_
    refine WN.op prg (by simp) (by simp; rfl) (by simp) ?_
    exact WN.keep [17, 1, 3] rfl
  refine WN.keep [1, 3, 17] ?_
  refine WP.cond (by first | rfl | (simp; rfl)) (fun hb => ?_) (fun hb => ?_)
  · exact absurd hb (by simp)
  · try simp at hb
    refine WP.skip ?_
    refine WP.seq ?_
    refine WP.regN prg (by kernel_rfl) ?_ -- region 3
    refine WN.op prg (by simp) (by simp; rfl) (by simp) ?_
    refine WN.op prg (by simp) (by simp; rfl) (by first | (simp; done) | (simp; omega)) ?_
    refine WN.op prg (by simp) (by simp; rfl) (by simp) ?_
    refine WN.op prg (by simp) (by simp; rfl) (by first | (simp; done) | (simp; omega)) ?_
    refine WN.op prg (by simp) (by simp; rfl) (by simp) ?_
    refine WN.keep [1, 3, 7] ?_
    refine WP.seq ?_
    refine WP.regN prg (by kernel_rfl) ?_ -- region 4
    refine WN.op prg (by simp) (by simp; rfl) (by first | (simp; done) | (simp; omega)) ?_
    refine WN.op prg (by simp) (by simp; rfl) (by simp) ?_
    refine WN.op prg (by simp) (by simp; rfl) (by simp) ?_
    refine WN.op prg (by simp) (by simp; rfl) (by simp) ?_
    refine WN.call prg [176] [200] (by simp) rfl (by simp; rfl) (by simp) (CallsA.at (by simp) (by simp) (c_l4Ways r ms hp r.cells.length [] (List.replicate r.cells.length 0) (by simp) ⟨by simp, by simp⟩ (fok_zero _))) ?_
    rintro _ _ ⟨rfl, rfl⟩
    refine ⟨_, by simp; rfl, ?_⟩
    refine WN.keep [7] ?_
    refine WP.seq ?_
    refine WP.regN prg (by kernel_rfl) ?_ -- region 5
    refine WN.op prg (by simp) (by simp; rfl) (by simp) ?_
    refine WN.op prg (by simp) (by simp; rfl) (by simp) ?_
    refine WN.keep [6] ?_
    refine WP.ret (DoneQ.ret [] (by simp; rfl) (by simp; rfl) ?_)
    have := (waysAt_ok hp (vs := []) (by simp) ⟨by simp, by simp⟩ (fok_zero _)).1
    exact ⟨rfl, by simp [← waysAt_all, this, List.take_of_length_le]⟩
@[simp] def tryH (r : Rule) (own vals out : List Int) : Heap :=
  [(8000, .box 0 [.dsl false (.ints .i64 own)]), (8001, .box 0 [.int .i64 r.kind, .dsl false (.ints .i64 r.cells), .int .i64 r.value]), (8002, .box 0 [.osl 8005 0 0 own.length]), (8003, .box 0 [.osl 8006 0 0 own.length]),
    (8004, .box 0 [.fn 181 [(8000, 0), (8001, 0), (8002, 0), (8003, 0), (8004, 0)]]), (8005, .arr 0 true (.ints .i64 vals)), (8006, .arr 0 true (.ints .i64 out))]
@[simp] def tryA (k : Nat) : List V := [.c (.int .i64 k), .c (.ptr 8000 0 0 0), .c (.ptr 8001 0 0 0), .c (.ptr 8002 0 0 0), .c (.ptr 8003 0 0 0), .c (.ptr 8004 0 0 0)]
structure TryPre (r : Rule) (own : List Int) : Prop where
  kind : 1 ≤ r.kind ∧ r.kind ≤ 5
  two : r.kind = 4 ∨ r.kind = 5 → own.length = 2
  len : own.length ≤ 4
  mask : ∀ m ∈ own, maskOk 4 m = true
def waysI (r : Rule) (own vals : List Int) (k : Nat) (out : List Int) : List Int := waysO r ((own.map maskVals).drop k) (vals.take k) out
def TryPost (r : Rule) (own vals : List Int) (k : Nat) (out : List Int) (x : LV) (ho : Heap) : Prop :=
  ∃ vals', vals'.length = own.length ∧ VsOk vals' ∧ vals'.take k = vals.take k ∧ ho = tryH r own vals' (waysI r own vals k out) ∧ x = .tup []
theorem waysI_full {r : Rule} {own vals out : List Int} (h : vals.length = own.length) : waysI r own vals own.length out = if holdsV r vals = true then orAll out vals else out := by
  unfold waysI
  rw [List.drop_eq_nil_of_le (by simp), ← h, List.take_length]
  rfl
theorem waysI_step {r : Rule} {own vals out : List Int} {k : Nat} (h : k < own.length) (hm : maskOk 4 (own[k]?.getD 0) = true) :
    waysI r own vals k out = (mvals (own[k]?.getD 0) 4).foldl (fun f v => waysO r ((own.map maskVals).drop (k + 1)) (vals.take k ++ [v]) f) out := by
  unfold waysI
  rw [List.drop_eq_getElem_cons (by simpa using h)]
  rw [List.getElem?_eq_getElem h] at hm ⊢
  simp only [waysO, List.getElem_map, Option.getD_some] at hm ⊢
  rw [mvals4 hm]
theorem own_ways_ok {r : Rule} {own vs f : List Int} {k : Nat} (h : TryPre r own) (hk : vs.length + (own.length - k) = own.length) (hkl : k ≤ own.length) (hv : VsOk vs) (hf : FOk own.length f) : FOk own.length (waysO r ((own.map maskVals).drop k) vs f) := by
  refine waysO_ok r _ vs f (fun l hl v hv => ?_) (by simp; omega) h.len hv hf
  obtain ⟨c, _, rfl⟩ := List.mem_map.1 (List.mem_of_mem_drop hl)
  have := maskVals_get hv
  omega
theorem mvals_mem {m v : Int} {k : Nat} (h : v ∈ mvals m k) : 1 ≤ v ∧ v ≤ k := by
  unfold mvals vlist at h
  have := (List.mem_filter.1 h).1
  simp at this
  omega
theorem own_fold_ok {r : Rule} {own vs f : List Int} {k : Nat} (h : TryPre r own) (hk : k < own.length) (hl : vs.length = k) (hv : VsOk vs) (hf : FOk own.length f) (l : List Int) (hL : ∀ v ∈ l, 0 ≤ v ∧ v ≤ 4) :
    FOk own.length (l.foldl (fun f v => waysO r ((own.map maskVals).drop (k + 1)) (vs ++ [v]) f) f) := by
  induction l generalizing f with
  | nil => exact hf
  | cons v l ih =>
    simp only [List.foldl_cons]
    refine ih (own_ways_ok h (by simp; omega) (by omega) ⟨by have := h.len; simp; omega, fun x hx => ?_⟩ hf) (fun v h => hL v (by simp [h]))
    rcases List.mem_append.1 hx with hx | hx
    · exact hv.2 x hx
    · simp at hx; subst hx; exact hL x (by simp)
theorem VsOk.set {vs : List Int} (h : VsOk vs) (k : Nat) {v : Int} (h0 : 0 ≤ v) (h4 : v ≤ 4) : VsOk (vs.set k v) := ⟨by simpa using h.1, fun x hx => by
  rcases List.mem_or_eq_of_mem_set hx with hx | rfl
  · exact h.2 x hx
  · exact ⟨h0, h4⟩⟩
theorem w_try (r : Rule) (own vals out : List Int) (q : Nat) (hp : TryPre r own) (hq : q ≤ own.length) (hvl : vals.length = own.length) (hv : VsOk vals) (hf : FOk own.length out)
    (ih : ∀ vals' out', vals'.length = own.length → VsOk vals' → FOk own.length out' → q < own.length → CallsA Try.prog 181 (tryA (q + 1)) (tryH r own vals' out') (TryPost r own vals' (q + 1) out')) :
    CallsA Try.prog 181 (tryA q) (tryH r own vals out) (TryPost r own vals q out) := by
  have hp4 := hp.len
  have hfl := hf.1
  unfold tryA
  simp only [tryH]
  refine CallsA.of (tv := tyOf Try.prog) (fn := Try.f181) prg.tv Try.func181 rfl rfl (by simp) ?_
  refine WP.seq ?_
  refine WP.seq ?_
  refine WP.regN prg (by kernel_rfl) ?_ -- region 0
  refine WN.op prg (by simp) (by simp; rfl) (by simp) ?_
  refine WN.op prg (by simp) (by simp; rfl) (by first | (simp; done) | (simp; omega)) ?_
  refine WN.op prg (by simp) (by simp; rfl) (by simp) ?_
  refine WN.op prg (by simp) (by simp; rfl) (by simp) ?_
  refine WN.keep [0, 1, 2, 3, 4, 5, 13] ?_
  refine WP.cond (by first | rfl | (simp; rfl)) (fun hb => ?_) (fun hb => ?_)
  · try simp at hb
    refine WP.seq ?_
    refine WP.seq ?_
    refine WP.regN prg (by kernel_rfl) ?_ -- region 1
    refine WN.op prg (by simp) (by simp; rfl) (by first | (simp; done) | (simp; omega)) ?_
    refine WN.op prg (by simp) (by simp; rfl) (by first | (simp; done) | (simp; omega)) ?_
    have hfull : q = own.length := by omega
    refine WN.call prg [] [8005] (by simp) rfl (by simp; rfl) (by simp) (CallsA.at (by simp [List.take_of_length_le, hvl]) (by simp) (c_valuesHold r vals hv (fun h => by rw [hvl]; exact hp.two h) hp.kind)) ?_
    rintro _ _ ⟨rfl, rfl⟩
    refine ⟨_, by simp; rfl, ?_⟩
    refine WN.keep [3, 4, 16] ?_
    refine WP.cond (by first | rfl | (simp; rfl)) (fun hb => ?_) (fun hb => ?_)
    · try simp at hb
      refine WP.seq ?_
      refine WP.regN prg (by kernel_rfl) ?_ -- region 2
      refine WN.op prg (by simp) (by simp; rfl) (by first | (simp; done) | (simp; omega)) ?_
      refine WN.op prg (by simp) (by simp; rfl) (by simp) ?_
      refine WN.op prg (by simp) (by simp; rfl) (by simp) ?_
      refine WN.keep [4, 17, 18, 19] ?_
      refine WP.block ?_
      rename_i hyes
      refine WP.loopU (vals.length) (fun k => [(19, .v (.c (.int .i64 (k))))]) (fun k => [(8006, .arr 0 true (.ints .i64 (orK out vals k)))]) (fun k => True) (fun k => by simp [putAll]; rfl) (fun k => by simp; rfl) (by simp) (by simp) (by simp) ?_
      intro k hk _
      obtain ⟨d1, d2⟩ := hv.get k
      have d3 := orK_len out vals k
      refine WP.seq ?_
      refine WP.regN prg (by kernel_rfl) ?_ -- region 3
      refine WN.op prg (by simp) (by simp; rfl) (by simp) ?_
      refine WN.keep [4, 17, 18, 19, 20] ?_
      refine WP.seq ?_
      refine WP.cond (by first | rfl | (simp; rfl)) (fun hb => ?_) (fun hb => ?_)
      · try simp at hb
        refine WP.skip ?_
        refine WP.seq ?_
        refine WP.block ?_
        refine WP.seq ?_
        refine WP.regN prg (by kernel_rfl) ?_ -- region 4
        refine WN.op prg (by simp) (by simp; rfl) (by simp) ?_
        refine WN.op prg (by simp) (by simp; rfl) (by first | (simp; done) | (simp; omega)) ?_
        refine WN.op prg (by simp) (by simp; rfl) (by first | (simp; done) | (simp; omega)) ?_
        refine WN.op prg (by simp) (by simp; rfl) (by simp) ?_
        refine WN.op prg (by simp) (by simp; rfl) (by simp) ?_
        refine WN.keep [4, 7, 8, 17, 18, 19] ?_
        refine WP.reg prg (by kernel_rfl) ?_ -- region 5 DRAWS
        refine WS.d (by simp) (by simp; rfl) (by first | (simp; done) | (simp; omega)) (by kernel_rfl) ?_
        refine WS.d (by simp) (by simp; rfl) (by simp) (by kernel_rfl) ?_
        refine WS.d (by simp) (by simp; rfl) (by first | (simp; done) | (simp; omega)) (by kernel_rfl) ?_
        refine WS.d (by simp) (by simp; rfl) (by first | (simp; done) | (simp; omega)) (by kernel_rfl) ?_
        refine WS.d (by simp) (by simp; rfl) (by simp) (by kernel_rfl) ?_
        refine WS.d (by simp) (by simp; rfl) (by first | (simp; done) | (simp; omega)) (by kernel_rfl) ?_
        refine WS.d (by simp) (by simp; rfl) (by simp) (by kernel_rfl) ?_
        refine WS.d (by simp) (by simp; rfl) (by first | (simp; done) | (simp; omega)) (by kernel_rfl) ?_
        refine WS.d (by simp) (by simp; rfl) (by first | (simp; done) | (simp; omega)) (by kernel_rfl) ?_
        refine WS.keep [4, 17, 18, 19] ?_
        refine WP.regN prg (by kernel_rfl) ?_ -- region 6
        refine WN.op prg (by simp) (by simp; rfl) (by simp) ?_
        refine WN.op prg (by simp) (by simp; rfl) (by simp) ?_
        refine WN.keep [4, 17, 18, 19] ?_
        have e1 := shl_one' d1 (by omega)
        have e2 := one_le d1 (by omega)
        have e3 := (orK_ok hf hv k).get k
        have e4 := bits_or e3.1 (by omega) (show 0 ≤ one (vals[k]?.getD 0) by omega) (by omega)
        exact ⟨by omega, trivial, by simp [e1, e4, orK, wrap_id (n := (k : Int) + 1) (by omega) (by omega)]⟩
      · try simp at hb
        refine WP.exit ?_
        refine WP.ret (DoneQ.ret [] (by simp; rfl) (by simp; rfl) ?_)
        have hkk : k = vals.length := by omega
        have hh : holdsV r vals = true := ‹_›
        subst hfull
        exact ⟨vals, hvl, hv, rfl, by simp [waysI_full hvl, hh, hkk, orK_all (hfl.trans hvl.symm)], by simp⟩
    · try simp at hb
      refine WP.skip ?_
      refine WP.ret (DoneQ.ret [] (by simp; rfl) (by simp; rfl) ?_)
      have hh : holdsV r vals = false := hb
      subst hfull
      exact ⟨vals, hvl, hv, rfl, by simp [waysI_full hvl, hh], by simp⟩
  · try simp at hb
    refine WP.skip ?_
    refine WP.seq ?_
    refine WP.regN prg (by kernel_rfl) ?_ -- region 7
    refine WN.op prg (by simp) (by simp; rfl) (by simp) ?_
    refine WN.keep [0, 1, 3, 5, 9] ?_
    refine WP.block ?_
    have hlt : q < own.length := by omega
    have hmk : maskOk 4 (own[q]?.getD 0) = true := by rw [List.getElem?_eq_getElem hlt]; exact hp.mask _ (List.getElem_mem hlt)
    obtain ⟨m0, m1, m2⟩ := maskOk_iff.1 hmk
    rw [allV4] at m1
    refine WP.loopX (α := List Int) (4) (fun k va => [(9, .v (.c (.int .i64 ((k : Int) + 1))))]) (fun k va => [(8005, .arr 0 true (.ints .i64 va)), (8006, .arr 0 true (.ints .i64 ((mvals (own[q]?.getD 0) k).foldl (fun f v => waysO r ((own.map maskVals).drop (q + 1)) (vals.take q ++ [v]) f) out)))]) (fun k va => (va.length = own.length) ∧ (VsOk va) ∧ (va.take q = vals.take q)) (vals) (fun k a => by simp [putAll]; rfl) (fun k a => by simp; rfl) (by exact ⟨hvl, hv, rfl⟩) (by simp) (by simp) ?_
    rintro k va hk ⟨ha1, ha2, ha3⟩
    refine WP.seq ?_
    refine WP.seq ?_
    refine WP.regN prg (by kernel_rfl) ?_ -- region 8
    refine WN.op prg (by simp) (by simp; rfl) (by simp) ?_
    refine WN.op prg (by simp) (by simp; rfl) (by simp) ?_
    refine WN.keep [0, 1, 3, 5, 9, 34] ?_
    refine WP.cond (by first | rfl | (simp; rfl)) (fun hb => ?_) (fun hb => ?_)
    · try simp at hb
      refine WP.skip ?_
      refine WP.seq ?_
      refine WP.block ?_
      refine WP.seq ?_
      refine WP.regN prg (by kernel_rfl) ?_ -- region 10
      refine WN.op prg (by simp) (by simp; rfl) (by first | (simp; done) | (simp; omega)) ?_
      refine WN.op prg (by simp) (by simp; rfl) (by simp) ?_
      refine WN.op prg (by simp) (by simp; rfl) (by first | (simp; done) | (simp; omega)) ?_
      refine WN.op prg (by simp) (by simp; rfl) (by first | (simp; done) | (simp; omega)) ?_
      refine WN.op prg (by simp) (by simp; rfl) (by simp) ?_
      refine WN.op prg (by simp) (by simp; rfl) (by first | (simp; done) | (simp; omega)) ?_
      refine WN.op prg (by simp) (by simp; rfl) (by simp) ?_
      refine WN.op prg (by simp) (by simp; rfl) (by simp) ?_
      refine WN.keep [0, 1, 3, 5, 9, 44] ?_
      refine WP.cond (by first | rfl | (simp; rfl)) (fun hb => ?_) (fun hb => ?_)
      · try simp at hb
        refine WP.seq ?_
        refine WP.regN prg (by kernel_rfl) ?_ -- region 11
        refine WN.op prg (by simp) (by simp; rfl) (by first | (simp; done) | (simp; omega)) ?_
        refine WN.op prg (by simp) (by simp; rfl) (by simp) ?_
        refine WN.op prg (by simp) (by simp; rfl) (by simp) ?_
        refine WN.op prg (by simp) (by simp; rfl) (by first | (simp; done) | (simp; omega)) ?_
        refine WN.op prg (by simp) (by simp; rfl) (by first | (simp; done) | (simp; omega)) ?_
        refine WN.keep [0, 1, 3, 5, 9] ?_
        refine WP.regN prg (by kernel_rfl) ?_ -- region 12
        refine WN.op prg (by simp) (by simp; rfl) (by first | (simp; done) | (simp; omega)) ?_
        refine WN.op prg (by simp) (by simp; rfl) (by simp) ?_
        refine WN.op prg (by simp) (by simp; rfl) (by simp) ?_
        have hbt := bit_and1_k (m := own[q]?.getD 0) m0 (by omega) (k := k) (by omega)
        rw [decide_eq_true hb] at hbt
        have hF := own_fold_ok hp hlt (vs := vals.take q) (by simp; omega) (hv.take q) hf (mvals (own[q]?.getD 0) k) (fun v h => by have := mvals_mem h; omega)
        have hw : IntKind.i64.wrap ((q : Int) + 1) = ((q + 1 : Nat) : Int) := wrap_id (by omega) (by omega)
        refine WN.call prg [8000, 8001, 8002, 8003, 8004, 8005, 8006] [] (by simp) rfl (by simp; rfl) (by simp) (CallsA.at (by simp [hw]) (by simp) (ih (va.set q ((k : Int) + 1)) _ (by simpa using ha1) (ha2.set q (by omega) (by omega)) hF hlt)) ?_
        rintro _ _ ⟨vb, hb1, hb2, hb3, rfl, rfl⟩
        refine ⟨_, by simp; rfl, ?_⟩
        refine WN.keep [0, 1, 3, 5, 9] ?_
        refine WP.regN prg (by kernel_rfl) ?_ -- region 9
        refine WN.op prg (by simp) (by simp; rfl) (by simp) ?_
        refine WN.op prg (by simp) (by simp; rfl) (by simp) ?_
        refine WN.op prg (by simp) (by simp; rfl) (by simp) ?_
        refine WN.keep [0, 1, 3, 5, 9] ?_
        have h3 : (va.set q ((k : Int) + 1)).take (q + 1) = vals.take q ++ [(k : Int) + 1] := by rw [set_take (by omega), ha3]
        have h4 : vb.take q = vals.take q := by
          have := congrArg (List.take q) (hb3.trans h3)
          rw [List.take_take, Nat.min_eq_left (by omega), List.take_append_of_le_length (by simp; omega), List.take_take, Nat.min_self] at this
          exact this
        refine ⟨by omega, vb, ⟨hb1, hb2, h4⟩, ?_⟩
        simp [mvals_succ, ← hbt, waysI, h3, wrap_id (n := (k : Int) + 1 + 1) (by omega) (by omega)]
      · try simp at hb
        refine WP.skip ?_
        refine WP.regN prg (by kernel_rfl) ?_ -- region 9
        refine WN.op prg (by simp) (by simp; rfl) (by simp) ?_
        refine WN.op prg (by simp) (by simp; rfl) (by simp) ?_
        refine WN.op prg (by simp) (by simp; rfl) (by simp) ?_
        refine WN.keep [0, 1, 3, 5, 9] ?_
        have hbt := bit_and1_k (m := own[q]?.getD 0) m0 (by omega) (k := k) (by omega)
        rw [decide_eq_false hb] at hbt
        refine ⟨by omega, va, ⟨ha1, ha2, ha3⟩, ?_⟩
        simp [mvals_succ, ← hbt, wrap_id (n := (k : Int) + 1 + 1) (by omega) (by omega)]
    · try simp at hb
      refine WP.exit ?_
      have hk4 : k = 4 := by omega
      refine DoneQ.nrm [] (by simp; rfl) (by simp; rfl) ⟨va, ha1, ha2, ha3, by simp [waysI_step hlt hmk, hk4], by simp⟩
theorem c_try (r : Rule) (own : List Int) (hp : TryPre r own) : ∀ (d : Nat) (vals out : List Int) (q : Nat), q + d = own.length → vals.length = own.length → VsOk vals → FOk own.length out →
    CallsA Try.prog 181 (tryA q) (tryH r own vals out) (TryPost r own vals q out)
  | 0, vals, out, q, hd, h1, h2, h3 => w_try r own vals out q hp (by omega) h1 h2 h3 fun _ _ _ _ _ h => absurd h (by omega)
  | d + 1, vals, out, q, hd, h1, h2, h3 => w_try r own vals out q hp (by omega) h1 h2 h3 fun vals' out' g1 g2 g3 _ => c_try r own hp d vals' out' (q + 1) (by omega) g1 g2 g3
theorem c_ruleMasks (r : Rule) (own : List Int) (hp : TryPre r own) : CallsA Try.prog 164 [r.v false, .c (.dsl false (.ints .i64 (own)))] [] fun x ho => ho = [] ∧ x = .v (.c (.dsl true (.ints .i64 (ruleMasks r own)))) := by
  have hp4 := hp.len
  unfold Rule.v
  refine CallsA.of (tv := tyOf Try.prog) (fn := Try.f164) prg.tv Try.func164 rfl rfl (by simp) ?_
  refine WP.seq ?_
  refine WP.regN prg (by kernel_rfl) ?_ -- region 0
  refine WN.op prg (by simp) (by simp; rfl) (by simp) ?_
  refine WN.op prg (by simp) (by simp; rfl) (by simp) ?_
  refine WN.op prg (by simp) (by simp; rfl) (by simp) ?_
  refine WN.keep [2, 3] ?_
  refine WP.seq ?_
  refine WP.regN prg (by kernel_rfl) ?_ -- region 1
  refine WN.op prg (by simp) (by simp; rfl) (by first | (simp; done) | (simp; omega)) ?_
  refine WN.op prg (by simp) (by simp; rfl) (by simp) ?_
  refine WN.op prg (by simp) (by simp; rfl) (by first | (simp; done) | (simp; omega)) ?_
  refine WN.op prg (by simp) (by simp; rfl) (by simp) ?_
  refine WN.op prg (by simp) (by simp; rfl) (by first | (simp; done) | (simp; omega)) ?_
  refine WN.keep [2, 3, 5] ?_
  refine WP.seq ?_
  refine WP.regN prg (by kernel_rfl) ?_ -- region 2
  refine WN.op prg (by simp) (by simp; rfl) (by first | (simp; done) | (simp; omega)) ?_
  refine WN.op prg (by simp) (by simp; rfl) (by simp) ?_
  refine WN.op prg (by simp) (by simp; rfl) (by first | (simp; done) | (simp; omega)) ?_
  refine WN.op prg (by simp) (by simp; rfl) (by simp) ?_
  refine WN.op prg (by simp) (by simp; rfl) (by first | (simp; done) | (simp; omega)) ?_
  refine WN.keep [2, 3, 5, 6] ?_
  refine WP.seq ?_
  refine WP.regN prg (by kernel_rfl) ?_ -- region 3
  refine WN.op prg (by simp) (by simp; rfl) (by simp) ?_
  refine WN.keep [2, 3, 5, 6, 7] ?_
  refine WP.seq ?_
  refine WP.regN prg (by kernel_rfl) ?_ -- region 4
  refine WN.op prg (by simp) (by simp; rfl) (by simp) ?_
  refine WN.op prg (by simp) (by simp; rfl) (by first | (simp; done) | (simp; omega)) ?_
  refine WN.keep [5, 7] ?_
  refine WP.seq ?_
  refine WP.regN prg (by kernel_rfl) ?_ -- region 5
  refine WN.op prg (by simp) (by simp; rfl) (by first | (simp; done) | (simp; omega)) ?_
  refine WN.call prg [24, 16, 48, 40, 56, 104, 80] [] (by simp) rfl (by simp; rfl) (by simp) (CallsA.at (by simp) (by simp) (c_try r own hp own.length (List.replicate own.length 0) (List.replicate own.length 0) 0 (by omega) (by simp) ⟨by simp; omega, fun x hx => by have := List.eq_of_mem_replicate hx; omega⟩ (fok_zero _))) ?_
  rintro _ _ ⟨vb, hb1, hb2, hb3, rfl, rfl⟩
  refine ⟨_, by simp; rfl, ?_⟩
  refine WN.keep [5] ?_
  refine WP.seq ?_
  refine WP.regN prg (by kernel_rfl) ?_ -- region 6
  refine WN.op prg (by simp) (by simp; rfl) (by first | (simp; done) | (simp; omega)) ?_
  refine WN.op prg (by simp) (by simp; rfl) (by simp) ?_
  refine WN.keep [4] ?_
  refine WP.ret (DoneQ.ret [] (by simp; rfl) (by simp; rfl) ?_)
  have h := (own_ways_ok hp (vs := []) (k := 0) (by simp) (by omega) ⟨by simp, by simp⟩ (fok_zero _)).1
  have e : waysI r own (List.replicate own.length 0) 0 (List.replicate own.length 0) = ruleMasks r own := rfl
  have e2 : (ruleMasks r own).length = own.length := h
  exact ⟨rfl, by simp [e, List.take_of_length_le, e2]⟩
theorem tryPre_own {r : Rule} {ms : List Int} (hp : WayPre r ms) : TryPre r (ownOf r ms) := by
  refine ⟨hp.kind, fun h => by simp [ownOf, hp.two h], by simp [ownOf, hp.len], fun m hm => ?_⟩
  obtain ⟨c, hc, rfl⟩ := List.mem_map.1 hm
  have := hp.cell c hc
  unfold getI
  rw [List.getElem?_eq_getElem (by omega)]
  exact hp.mask _ (List.getElem_mem (by omega))
theorem ruleMasks_len {r : Rule} {own : List Int} (hp : TryPre r own) : (ruleMasks r own).length = own.length :=
  (own_ways_ok hp (vs := []) (k := 0) (by simp) (by omega) ⟨by simp, by simp⟩ (fok_zero _)).1
theorem cellMask_ok {n v : Int} (h2 : 2 ≤ n) (h4 : n ≤ 4) (h0 : 0 ≤ v) (hv : v ≤ n) : maskOk n (cellMask n v) = true := by
  have : n = 2 ∨ n = 3 ∨ n = 4 := by omega
  rcases this with rfl | rfl | rfl
  · exact fin_all (p := fun v => maskOk 2 (cellMask 2 v) = true) (N := 3) (by decide) h0 (by omega)
  · exact fin_all (p := fun v => maskOk 3 (cellMask 3 v) = true) (N := 4) (by decide) h0 (by omega)
  · exact fin_all (p := fun v => maskOk 4 (cellMask 4 v) = true) (N := 5) (by decide) h0 (by omega)
theorem gridMasks_ok {g : List Int} {n : Int} (hg : gridOk g n = true) : masksOk (gridMasks g n) n = true := by
  obtain ⟨h2, h4, hl⟩ := gridOk_size hg
  refine masksOk_iff.2 ⟨h2, h4, by simp [gridMasks, hl], fun m hm => ?_⟩
  obtain ⟨v, hv, rfl⟩ := List.mem_map.1 hm
  simp only [gridOk, Bool.and_eq_true] at hg
  have := List.all_eq_true.1 hg.2 v hv
  simp only [cellOk, Bool.and_eq_true, decide_eq_true_eq] at this
  exact cellMask_ok h2 h4 this.1 this.2
theorem tryPre_cells {r : Rule} {g : List Int} {n : Int} (hr : ruleOk r n = true) (hg : gridOk g n = true) : TryPre r (r.cells.map fun c => cellMask n (getI g c)) := by
  obtain ⟨h2, h4, hc, hnd, hk⟩ := ruleOk_iff.1 hr
  obtain ⟨k1, k2, k3, k4⟩ := kindOk_facts hk
  refine ⟨k1, fun h => by simp [k2 h], by simp [k4], fun m hm => ?_⟩
  obtain ⟨c, hc', rfl⟩ := List.mem_map.1 hm
  have := gridOk_get hg c.toNat
  exact maskOk4 h2 h4 (cellMask_ok h2 h4 this.1 this.2)
theorem rule_cell {r : Rule} {n : Int} {g : List Int} (hr : ruleOk r n = true) (hg : gridOk g n = true) {k : Nat} (hk : k < r.cells.length) : 0 ≤ r.cells[k]?.getD 0 ∧ r.cells[k]?.getD 0 < g.length ∧ 0 ≤ g[(r.cells[k]?.getD 0).toNat]?.getD 0 ∧ g[(r.cells[k]?.getD 0).toNat]?.getD 0 ≤ 4 := by
  obtain ⟨h2, h4, hc, _⟩ := ruleOk_iff.1 hr
  obtain ⟨_, _, hl⟩ := gridOk_size hg
  have h1 := hc (r.cells[k]) (List.getElem_mem hk)
  have h3 := gridOk_get hg (r.cells[k]?.getD 0).toNat
  rw [List.getElem?_eq_getElem hk] at *
  simp only [Option.getD_some] at *
  omega
theorem masks_cell {r : Rule} {n : Int} {g : List Int} (hr : ruleOk r n = true) (hg : gridOk g n = true) : ownOf r (gridMasks g n) = r.cells.map fun c => cellMask n (getI g c) := by
  obtain ⟨h2, h4, hc, _⟩ := ruleOk_iff.1 hr
  obtain ⟨_, _, hl⟩ := gridOk_size hg
  unfold ownOf
  refine List.map_congr_left fun c h => ?_
  have := hc c h
  unfold getI gridMasks
  rw [List.getElem?_map, List.getElem?_eq_getElem (by omega)]
  rfl
theorem c_implRuleMasks (r : Rule) (ms : List Int) (n : Int) (hr : ruleOk r n = true) (hm : masksOk ms n = true) : CallsA Try.prog 184 [r.v false, .c (.dsl false (.ints .i64 (ms))), .c (.int .i64 (n))] [] fun x ho => ho = [] ∧ x = .v (.c (.dsl true (.ints .i64 (ruleMasks r (ownOf r ms))))) := by
  have hp := wayPre hr hm
  have hlen := rule_len hr
  have hml := hp.mlen
  unfold Rule.v
  refine CallsA.of (tv := tyOf Try.prog) (fn := Try.f184) prg.tv Try.func184 rfl rfl (by simp) ?_
  refine WP.seq ?_
  refine WP.regN prg (by kernel_rfl) ?_ -- region 0
  refine WN.op prg (by simp) (by simp; rfl) (by simp) ?_
  refine WN.op prg (by simp) (by simp; rfl) (by simp) ?_
  refine WN.keep [1, 2, 3] ?_
  refine WP.seq ?_
  refine WP.seq ?_
  refine WP.regN prg (by kernel_rfl) ?_ -- region 1
  refine WN.op prg (by simp) (by simp; rfl) (by first | (simp; done) | (simp; omega)) ?_
  refine WN.op prg (by simp) (by simp; rfl) (by simp) ?_
  refine WN.call prg [] [] (by simp) rfl (by simp; rfl) (by simp) (CallsA.at (by simp) (by simp) (c_implRuleValid_ok r n hr)) ?_
  rintro _ _ ⟨rfl, rfl⟩
  refine ⟨_, by simp; rfl, ?_⟩
  refine WN.op prg (by simp) (by simp; rfl) (by simp) ?_
  refine WN.op prg (by simp) (by simp; rfl) (by simp) ?_
  apply WN.join (t := 19) 5 14
  · first | rfl | (simp; rfl)
  · intro hg14
    refine WN.skip prg (by simp) ?_
    refine WN.skip prg (by simp) ?_
    refine WN.skip prg (by simp) ?_
    refine WN.skip prg (by simp) ?_
    refine WN.op prg (by simp) (by simp; rfl) (by simp) ?_
    exact WN.keep [19, 1, 3] rfl
  · intro hg14
    refine WN.op prg (by simp) (by simp; rfl) (by simp) ?_
    refine WN.op prg (by simp) (by simp; rfl) (by simp) ?_
    refine WN.call prg [] [] (by simp) rfl (by simp; rfl) (by simp) (CallsA.at (by simp) (by simp) (c_implMasksValid ms n hm)) ?_
    rintro _ _ ⟨rfl, rfl⟩
    refine ⟨_, by simp; rfl, ?_⟩
    refine WN.op prg (by simp) (by simp; rfl) (by simp) ?_
    refine WN.op prg (by simp) (by simp; rfl) (by simp) ?_
    exact WN.keep [19, 1, 3] rfl
  refine WN.keep [1, 3, 19] ?_
  refine WP.cond (by first | rfl | (simp; rfl)) (fun hb => ?_) (fun hb => ?_)
  · exact absurd hb (by simp)
  · try simp at hb
    refine WP.skip ?_
    refine WP.seq ?_
    refine WP.regN prg (by kernel_rfl) ?_ -- region 3
    refine WN.op prg (by simp) (by simp; rfl) (by simp) ?_
    refine WN.op prg (by simp) (by simp; rfl) (by simp) ?_
    refine WN.keep [1, 3, 7] ?_
    refine WP.seq ?_
    refine WP.seq ?_
    refine WP.regN prg (by kernel_rfl) ?_ -- region 4
    refine WN.op prg (by simp) (by simp; rfl) (by simp) ?_
    refine WN.op prg (by simp) (by simp; rfl) (by first | (simp; done) | (simp; omega)) ?_
    refine WN.op prg (by simp) (by simp; rfl) (by simp) ?_
    refine WN.op prg (by simp) (by simp; rfl) (by simp) ?_
    refine WN.keep [1, 3, 7, 22, 23, 24] ?_
    refine WP.block ?_
    refine WP.loopU (r.cells.length) (fun k => [(7, .v (.c (.osl 160 k 0 (k)))), (24, .v (.c (.int .i64 (k))))]) (fun k => [(160, .arr k true (.ints .i64 ((ownOf r ms).take k)))]) (fun k => True) (fun k => by simp [putAll]; rfl) (fun k => by simp; rfl) (by simp) (by simp) (by simp) ?_
    intro k hk _
    have e : (ownOf r ms).length = r.cells.length := by simp [ownOf]
    have hat := fun h => hp.at_ (k := k) h
    refine WP.seq ?_
    refine WP.regN prg (by kernel_rfl) ?_ -- region 5
    refine WN.op prg (by simp) (by simp; rfl) (by simp) ?_
    refine WN.keep [1, 3, 7, 22, 23, 24, 25] ?_
    refine WP.seq ?_
    refine WP.cond (by first | rfl | (simp; rfl)) (fun hb => ?_) (fun hb => ?_)
    · try simp at hb
      refine WP.skip ?_
      refine WP.seq ?_
      refine WP.block ?_
      refine WP.seq ?_
      refine WP.regN prg (by kernel_rfl) ?_ -- region 6
      refine WN.op prg (by simp) (by simp; rfl) (by first | (simp; done) | (simp; omega)) ?_
      refine WN.op prg (by simp) (by simp; rfl) (by first | (simp; done) | (simp; omega)) ?_
      refine WN.op prg (by simp) (by simp; rfl) (by simp) ?_
      refine WN.keep [1, 3, 7, 9, 22, 23, 24] ?_
      refine WP.regN prg (by kernel_rfl) ?_ -- region 7
      refine WN.op prg (by simp) (by simp; rfl) (by simp) ?_
      refine WN.op prg (by simp) (by simp; rfl) (by simp) ?_
      refine WN.op prg (by simp) (by simp; rfl) (by simp) ?_
      refine WN.op prg (by simp) (by simp; rfl) (by first | (simp; done) | (simp; omega)) ?_
      refine WN.op prg (by simp) (by simp; rfl) (by first | (simp; done) | (simp; omega)) ?_
      refine WN.op prg (by simp) (by simp; rfl) (by simp) ?_
      refine WN.op prg (by simp) (by simp; rfl) (by first | (simp; done) | (simp; omega)) ?_
      refine WN.op prg (by simp) (by simp; rfl) (by simp) ?_
      refine WN.keep [1, 3, 7, 22, 23, 24] ?_
      refine WP.regN prg (by kernel_rfl) ?_ -- region 8
      refine WN.tidy [1, 3, 7, 22, 23, 24] [24, 160] (by simp; rfl) ?_
      refine WN.op prg (by simp) (by simp; rfl) (by simp) ?_
      refine WN.op prg (by simp) (by simp; rfl) (by simp) ?_
      refine WN.keep [1, 3, 7, 22, 23, 24] ?_
      have hx : (ownOf r ms)[k]? = some (ms[(r.cells[k]?.getD 0).toNat]?.getD 0) := by simp [ownOf, List.getElem?_eq_getElem hb, getI]
      exact ⟨by omega, trivial, by simp [take_snoc hx, wrap_id (n := (k : Int) + 1) (by omega) (by omega)]⟩
    · try simp at hb
      refine WP.exit ?_
      refine WP.seq ?_
      refine WP.regN prg (by kernel_rfl) ?_ -- region 9
      refine WN.op prg (by simp) (by simp; rfl) (by first | (simp; done) | (simp; omega)) ?_
      refine WN.op prg (by simp) (by simp; rfl) (by simp) ?_
      have hkk : k = r.cells.length := by omega
      refine WN.call prg [] [160] (by simp) rfl (by simp; rfl) (by simp) (CallsA.at (by simp [hkk, List.take_of_length_le, e]) (by simp) (c_ruleMasks r (ownOf r ms) (tryPre_own hp))) ?_
      rintro _ _ ⟨rfl, rfl⟩
      refine ⟨_, by simp; rfl, ?_⟩
      refine WN.op prg (by simp) (by simp; rfl) (by simp) ?_
      refine WN.keep [6] ?_
      refine WP.ret (DoneQ.ret [] (by simp; rfl) (by simp; rfl) ?_)
      exact ⟨rfl, by simp⟩
theorem c_canHold (r : Rule) (g : List Int) (n : Int) (hr : ruleOk r n = true) (hg : gridOk g n = true) : CallsA Try.prog 132 [r.v false, .c (.dsl false (.ints .i64 (g))), .c (.int .i64 (n))] [] fun x ho => ho = [] ∧ x = .v (.c (.bool (canHold r g n))) := by
  have hlen := rule_len hr
  have hgl := grid_len hg
  obtain ⟨h2, h4, hll⟩ := gridOk_size hg
  unfold Rule.v
  refine CallsA.of (tv := tyOf Try.prog) (fn := Try.f132) prg.tv Try.func132 rfl rfl (by simp) ?_
  refine WP.seq ?_
  refine WP.regN prg (by kernel_rfl) ?_ -- region 0
  refine WN.op prg (by simp) (by simp; rfl) (by simp) ?_
  refine WN.op prg (by simp) (by simp; rfl) (by simp) ?_
  refine WN.keep [1, 2, 3] ?_
  refine WP.seq ?_
  refine WP.regN prg (by kernel_rfl) ?_ -- region 1
  refine WN.op prg (by simp) (by simp; rfl) (by simp) ?_
  refine WN.op prg (by simp) (by simp; rfl) (by simp) ?_
  refine WN.keep [1, 2, 3, 7] ?_
  refine WP.seq ?_
  refine WP.seq ?_
  refine WP.regN prg (by kernel_rfl) ?_ -- region 2
  refine WN.op prg (by simp) (by simp; rfl) (by simp) ?_
  refine WN.op prg (by simp) (by simp; rfl) (by first | (simp; done) | (simp; omega)) ?_
  refine WN.op prg (by simp) (by simp; rfl) (by simp) ?_
  refine WN.op prg (by simp) (by simp; rfl) (by simp) ?_
  refine WN.keep [1, 2, 3, 7, 12, 13, 14] ?_
  refine WP.block ?_
  refine WP.loopU (r.cells.length) (fun k => [(7, .v (.c (.osl 80 k 0 (k)))), (14, .v (.c (.int .i64 (k))))]) (fun k => [(80, .arr k true (.ints .i64 ((r.cells.map fun c => cellMask n (getI g c)).take k)))]) (fun k => True) (fun k => by simp [putAll]; rfl) (fun k => by simp; rfl) (by simp) (by simp) (by simp) ?_
  intro k hk _
  have hcl := fun h => rule_cell hr hg (k := k) h
  refine WP.seq ?_
  refine WP.regN prg (by kernel_rfl) ?_ -- region 3
  refine WN.op prg (by simp) (by simp; rfl) (by simp) ?_
  refine WN.keep [1, 2, 3, 7, 12, 13, 14, 15] ?_
  refine WP.seq ?_
  refine WP.cond (by first | rfl | (simp; rfl)) (fun hb => ?_) (fun hb => ?_)
  · try simp at hb
    refine WP.skip ?_
    refine WP.seq ?_
    refine WP.block ?_
    refine WP.seq ?_
    refine WP.regN prg (by kernel_rfl) ?_ -- region 4
    refine WN.op prg (by simp) (by simp; rfl) (by first | (simp; done) | (simp; omega)) ?_
    refine WN.op prg (by simp) (by simp; rfl) (by first | (simp; done) | (simp; omega)) ?_
    refine WN.op prg (by simp) (by simp; rfl) (by simp) ?_
    refine WN.keep [1, 2, 3, 7, 9, 12, 13, 14] ?_
    refine WP.seq ?_
    refine WP.regN prg (by kernel_rfl) ?_ -- region 5
    refine WN.op prg (by simp) (by simp; rfl) (by simp) ?_
    refine WN.op prg (by simp) (by simp; rfl) (by simp) ?_
    refine WN.op prg (by simp) (by simp; rfl) (by first | (simp; done) | (simp; omega)) ?_
    refine WN.op prg (by simp) (by simp; rfl) (by first | (simp; done) | (simp; omega)) ?_
    refine WN.op prg (by simp) (by simp; rfl) (by simp) ?_
    refine WN.keep [1, 2, 3, 7, 9, 12, 13, 14, 22] ?_
    refine WP.cond (by first | rfl | (simp; rfl)) (fun hb => ?_) (fun hb => ?_)
    · try simp at hb
      refine WP.regN prg (by kernel_rfl) ?_ -- region 6
      refine WN.op prg (by simp) (by simp; rfl) (by simp) ?_
      refine WN.op prg (by simp) (by simp; rfl) (by simp) ?_
      refine WN.op prg (by simp) (by simp; rfl) (by simp) ?_
      refine WN.op prg (by simp) (by simp; rfl) (by first | (simp; done) | (simp; omega)) ?_
      refine WN.op prg (by simp) (by simp; rfl) (by first | (simp; done) | (simp; omega)) ?_
      refine WN.op prg (by simp) (by simp; rfl) (by first | (simp; done) | (simp; omega)) ?_
      refine WN.op prg (by simp) (by simp; rfl) (by simp) ?_
      refine WN.op prg (by simp) (by simp; rfl) (by first | (simp; done) | (simp; omega)) ?_
      refine WN.op prg (by simp) (by simp; rfl) (by simp) ?_
      refine WN.keep [1, 2, 3, 7, 12, 13, 14] ?_
      refine WP.regN prg (by kernel_rfl) ?_ -- region 8
      refine WN.tidy [1, 2, 3, 7, 12, 13, 14] [24, 80] (by simp; rfl) ?_
      refine WN.op prg (by simp) (by simp; rfl) (by simp) ?_
      refine WN.op prg (by simp) (by simp; rfl) (by simp) ?_
      refine WN.keep [1, 2, 3, 7, 12, 13, 14] ?_
      obtain ⟨c1, c2, c3, c4⟩ := hcl (by omega)
      have hpos : 0 < g[(r.cells[k]?.getD 0).toNat]?.getD 0 := hb
      have hkl : k < r.cells.length := by omega
      have e1 := shl_one' c3 (by omega)
      have hx : (r.cells.map fun c => cellMask n (getI g c))[k]? = some (one (g[(r.cells[k]?.getD 0).toNat]?.getD 0)) := by
        rw [List.getElem?_eq_getElem hkl] at hpos
        simp at hpos
        simp [List.getElem?_eq_getElem hkl, getI, cellMask, hpos]
      exact ⟨hkl, trivial, by simp [e1, take_snoc hx, wrap_id (n := (k : Int) + 1) (by omega) (by omega)]⟩
    · try simp at hb
      refine WP.regN prg (by kernel_rfl) ?_ -- region 7
      refine WN.op prg (by simp) (by simp; rfl) (by simp) ?_
      refine WN.op prg (by simp) (by simp; rfl) (by simp) ?_
      refine WN.call prg [] [] (by simp) rfl (by simp; rfl) (by simp) (CallsA.at (by simp) (by simp) (c_allValues n (by omega) (by omega))) ?_
      rintro _ _ ⟨rfl, rfl⟩
      refine ⟨_, by simp; rfl, ?_⟩
      refine WN.op prg (by simp) (by simp; rfl) (by simp) ?_
      refine WN.op prg (by simp) (by simp; rfl) (by first | (simp; done) | (simp; omega)) ?_
      refine WN.op prg (by simp) (by simp; rfl) (by simp) ?_
      refine WN.keep [1, 2, 3, 7, 12, 13, 14] ?_
      refine WP.regN prg (by kernel_rfl) ?_ -- region 8
      refine WN.tidy [1, 2, 3, 7, 12, 13, 14] [24, 80] (by simp; rfl) ?_
      refine WN.op prg (by simp) (by simp; rfl) (by simp) ?_
      refine WN.op prg (by simp) (by simp; rfl) (by simp) ?_
      refine WN.keep [1, 2, 3, 7, 12, 13, 14] ?_
      have hpos : ¬ 0 < g[(r.cells[k]?.getD 0).toNat]?.getD 0 := by omega
      have hkl : k < r.cells.length := by omega
      have hx : (r.cells.map fun c => cellMask n (getI g c))[k]? = some (allV n) := by
        rw [List.getElem?_eq_getElem hkl] at hpos
        simp at hpos
        simp [List.getElem?_eq_getElem hkl, getI, cellMask]
        omega
      exact ⟨hkl, trivial, by simp [take_snoc hx, wrap_id (n := (k : Int) + 1) (by omega) (by omega)]⟩
  · try simp at hb
    refine WP.exit ?_
    refine WP.seq ?_
    refine WP.regN prg (by kernel_rfl) ?_ -- region 9
    refine WN.op prg (by simp) (by simp; rfl) (by first | (simp; done) | (simp; omega)) ?_
    refine WN.op prg (by simp) (by simp; rfl) (by simp) ?_
    have hkk : k = r.cells.length := by omega
    have hrl := ruleMasks_len (tryPre_cells hr hg)
    simp at hrl
    refine WN.call prg [] [80] (by simp) rfl (by simp; rfl) (by simp) (CallsA.at (by simp [hkk, List.take_of_length_le]) (by simp) (c_ruleMasks r (r.cells.map fun c => cellMask n (getI g c)) (tryPre_cells hr hg))) ?_
    rintro _ _ ⟨rfl, rfl⟩
    refine ⟨_, by simp; rfl, ?_⟩
    refine WN.op prg (by simp) (by simp; rfl) (by first | (simp; done) | (simp; omega)) ?_
    refine WN.op prg (by simp) (by simp; rfl) (by first | (simp; done) | (simp; omega)) ?_
    refine WN.op prg (by simp) (by simp; rfl) (by simp) ?_
    refine WN.op prg (by simp) (by simp; rfl) (by simp) ?_
    refine WN.keep [6] ?_
    refine WP.ret (DoneQ.ret [] (by simp; rfl) (by simp; rfl) ?_)
    exact ⟨rfl, by simp [canHold, bne, beq_dec]⟩
theorem c_rulePossible (r : Rule) (g : List Int) (n : Int) (hr : ruleOk r n = true) (hg : gridOk g n = true) : CallsA Try.prog 158 [r.v false, .c (.dsl false (.ints .i64 (g))), .c (.int .i64 (n))] [] fun x ho => ho = [] ∧ x = .v (.c (.bool (canHold r g n))) := by
  have hlen := rule_len hr
  have hgl := grid_len hg
  obtain ⟨h2, h4, hll⟩ := gridOk_size hg
  have hm := gridMasks_ok hg
  have hml := masks_len hm
  unfold Rule.v
  refine CallsA.of (tv := tyOf Try.prog) (fn := Try.f158) prg.tv Try.func158 rfl rfl (by simp) ?_
  refine WP.seq ?_
  refine WP.regN prg (by kernel_rfl) ?_ -- region 0
  refine WN.op prg (by simp) (by simp; rfl) (by simp) ?_
  refine WN.op prg (by simp) (by simp; rfl) (by simp) ?_
  refine WN.keep [1, 2, 3] ?_
  refine WP.seq ?_
  refine WP.seq ?_
  refine WP.regN prg (by kernel_rfl) ?_ -- region 1
  refine WN.op prg (by simp) (by simp; rfl) (by first | (simp; done) | (simp; omega)) ?_
  refine WN.op prg (by simp) (by simp; rfl) (by simp) ?_
  refine WN.call prg [] [] (by simp) rfl (by simp; rfl) (by simp) (CallsA.at (by simp) (by simp) (c_specRuleValid_ok r n hr)) ?_
  rintro _ _ ⟨rfl, rfl⟩
  refine ⟨_, by simp; rfl, ?_⟩
  refine WN.op prg (by simp) (by simp; rfl) (by simp) ?_
  refine WN.op prg (by simp) (by simp; rfl) (by simp) ?_
  apply WN.join (t := 19) 5 14
  · first | rfl | (simp; rfl)
  · intro hg14
    refine WN.skip prg (by simp) ?_
    refine WN.skip prg (by simp) ?_
    refine WN.skip prg (by simp) ?_
    refine WN.skip prg (by simp) ?_
    refine WN.op prg (by simp) (by simp; rfl) (by simp) ?_
    exact WN.keep [19, 1, 2, 3] rfl
  · intro hg14
    refine WN.op prg (by simp) (by simp; rfl) (by simp) ?_
    refine WN.op prg (by simp) (by simp; rfl) (by simp) ?_
    refine WN.call prg [] [] (by simp) rfl (by simp; rfl) (by simp) (CallsA.at (by simp) (by simp) (c_specGridValid_ok g n hg)) ?_
    rintro _ _ ⟨rfl, rfl⟩
    refine ⟨_, by simp; rfl, ?_⟩
    refine WN.op prg (by simp) (by simp; rfl) (by simp) ?_
    refine WN.op prg (by simp) (by simp; rfl) (by simp) ?_
    exact WN.keep [19, 1, 2, 3] rfl
  refine WN.keep [1, 2, 3, 19] ?_
  refine WP.cond (by first | rfl | (simp; rfl)) (fun hb => ?_) (fun hb => ?_)
  · exact absurd hb (by simp)
  · try simp at hb
    refine WP.skip ?_
    refine WP.seq ?_
    refine WP.regN prg (by kernel_rfl) ?_ -- region 3
    refine WN.op prg (by simp) (by simp; rfl) (by simp) ?_
    refine WN.op prg (by simp) (by simp; rfl) (by simp) ?_
    refine WN.keep [1, 2, 3, 7] ?_
    refine WP.seq ?_
    refine WP.seq ?_
    refine WP.regN prg (by kernel_rfl) ?_ -- region 4
    refine WN.op prg (by simp) (by simp; rfl) (by simp) ?_
    refine WN.keep [1, 2, 3, 7, 8] ?_
    refine WP.block ?_
    refine WP.loopU (g.length) (fun k => [(7, .v (.c (.osl 160 k 0 (k)))), (8, .v (.c (.int .i64 (k))))]) (fun k => [(160, .arr k true (.ints .i64 ((gridMasks g n).take k)))]) (fun k => True) (fun k => by simp [putAll]; rfl) (fun k => by simp; rfl) (by simp) (by simp) (by simp) ?_
    intro k hk _
    have hgv := gridOk_get hg k
    have hgm : (gridMasks g n).length = g.length := by simp [gridMasks]
    refine WP.seq ?_
    refine WP.seq ?_
    refine WP.regN prg (by kernel_rfl) ?_ -- region 5
    refine WN.op prg (by simp) (by simp; rfl) (by simp) ?_
    refine WN.op prg (by simp) (by simp; rfl) (by simp) ?_
    refine WN.op prg (by simp) (by simp; rfl) (by simp) ?_
    refine WN.op prg (by simp) (by simp; rfl) (by simp) ?_
    refine WN.keep [1, 2, 3, 7, 8, 24] ?_
    refine WP.cond (by first | rfl | (simp; rfl)) (fun hb => ?_) (fun hb => ?_)
    · try simp at hb
      refine WP.skip ?_
      refine WP.seq ?_
      refine WP.block ?_
      refine WP.seq ?_
      refine WP.regN prg (by kernel_rfl) ?_ -- region 7
      refine WN.op prg (by simp) (by simp; rfl) (by simp) ?_
      refine WN.op prg (by simp) (by simp; rfl) (by simp) ?_
      refine WN.op prg (by simp) (by simp; rfl) (by first | (simp; done) | (simp; omega)) ?_
      refine WN.op prg (by simp) (by simp; rfl) (by first | (simp; done) | (simp; omega)) ?_
      refine WN.op prg (by simp) (by simp; rfl) (by first | (simp; done) | (simp; omega)) ?_
      refine WN.op prg (by simp) (by simp; rfl) (by simp) ?_
      refine WN.keep [1, 2, 3, 7, 8, 9] ?_
      refine WP.seq ?_
      refine WP.seq ?_
      refine WP.regN prg (by kernel_rfl) ?_ -- region 8
      refine WN.op prg (by simp) (by simp; rfl) (by simp) ?_
      refine WN.op prg (by simp) (by simp; rfl) (by simp) ?_
      refine WN.op prg (by simp) (by simp; rfl) (by first | (simp; done) | (simp; omega)) ?_
      refine WN.op prg (by simp) (by simp; rfl) (by first | (simp; done) | (simp; omega)) ?_
      refine WN.op prg (by simp) (by simp; rfl) (by simp) ?_
      refine WN.keep [1, 2, 3, 7, 8, 9, 36] ?_
      refine WP.cond (by first | rfl | (simp; rfl)) (fun hb => ?_) (fun hb => ?_)
      · try simp at hb
        refine WP.regN prg (by kernel_rfl) ?_ -- region 9
        refine WN.op prg (by simp) (by simp; rfl) (by simp) ?_
        refine WN.op prg (by simp) (by simp; rfl) (by simp) ?_
        refine WN.op prg (by simp) (by simp; rfl) (by simp [wrap_id (n := n + 1) (by omega) (by omega)]; omega) ?_
        refine WN.op prg (by simp) (by simp; rfl) (by simp) ?_
        refine WN.op prg (by simp) (by simp; rfl) (by simp) ?_
        refine WN.keep [1, 2, 3, 7, 8, 9] ?_
        refine WP.regN prg (by kernel_rfl) ?_ -- region 10
        refine WN.op prg (by simp) (by simp; rfl) (by simp) ?_
        refine WN.op prg (by simp) (by simp; rfl) (by simp) ?_
        refine WN.op prg (by simp) (by simp; rfl) (by simp) ?_
        refine WN.op prg (by simp) (by simp; rfl) (by first | (simp; done) | (simp; omega)) ?_
        refine WN.op prg (by simp) (by simp; rfl) (by simp) ?_
        refine WN.keep [1, 2, 3, 7, 8] ?_
        refine WP.regN prg (by kernel_rfl) ?_ -- region 6
        refine WN.tidy [1, 2, 3, 7, 8] [24, 160] (by simp; rfl) ?_
        refine WN.op prg (by simp) (by simp; rfl) (by simp) ?_
        refine WN.op prg (by simp) (by simp; rfl) (by simp) ?_
        refine WN.op prg (by simp) (by simp; rfl) (by simp) ?_
        refine WN.keep [1, 2, 3, 7, 8] ?_
        have hkl : k < g.length := by omega
        have e1 := allV_w (n := n) (by omega) (by omega)
        have hx : (gridMasks g n)[k]? = some (allV n) := by
          have h0 : g[k]?.getD 0 = 0 := hb
          rw [List.getElem?_eq_getElem hkl] at h0
          simp at h0
          simp [gridMasks, List.getElem?_eq_getElem hkl, cellMask, h0]
        exact ⟨hkl, trivial, by simp [e1, take_snoc hx, wrap_id (n := (k : Int) + 1) (by omega) (by omega)]⟩
      · try simp at hb
        refine WP.skip ?_
        refine WP.regN prg (by kernel_rfl) ?_ -- region 10
        refine WN.op prg (by simp) (by simp; rfl) (by simp) ?_
        refine WN.op prg (by simp) (by simp; rfl) (by simp) ?_
        refine WN.op prg (by simp) (by simp; rfl) (by simp) ?_
        refine WN.op prg (by simp) (by simp; rfl) (by first | (simp; done) | (simp; omega)) ?_
        refine WN.op prg (by simp) (by simp; rfl) (by simp) ?_
        refine WN.keep [1, 2, 3, 7, 8] ?_
        refine WP.regN prg (by kernel_rfl) ?_ -- region 6
        refine WN.tidy [1, 2, 3, 7, 8] [24, 160] (by simp; rfl) ?_
        refine WN.op prg (by simp) (by simp; rfl) (by simp) ?_
        refine WN.op prg (by simp) (by simp; rfl) (by simp) ?_
        refine WN.op prg (by simp) (by simp; rfl) (by simp) ?_
        refine WN.keep [1, 2, 3, 7, 8] ?_
        have hkl : k < g.length := by omega
        have e1 := shl_one' hgv.1 (by omega)
        have hx : (gridMasks g n)[k]? = some (one (g[k]?.getD 0)) := by
          have h0 : ¬ g[k]?.getD 0 = 0 := hb
          have h1 := hgv.1
          rw [List.getElem?_eq_getElem hkl] at h0 h1
          simp at h0 h1
          simp [gridMasks, List.getElem?_eq_getElem hkl, cellMask]
          omega
        exact ⟨hkl, trivial, by simp [e1, take_snoc hx, wrap_id (n := (k : Int) + 1) (by omega) (by omega)]⟩
    · try simp at hb
      refine WP.exit ?_
      refine WP.seq ?_
      refine WP.regN prg (by kernel_rfl) ?_ -- region 11
      refine WN.op prg (by simp) (by simp; rfl) (by first | (simp; done) | (simp; omega)) ?_
      refine WN.op prg (by simp) (by simp; rfl) (by simp) ?_
      refine WN.op prg (by simp) (by simp; rfl) (by simp) ?_
      have hkk : k = g.length := by omega
      have hrl := ruleMasks_len (tryPre_cells hr hg)
      rw [← masks_cell hr hg] at hrl
      have hol : (ownOf r (gridMasks g n)).length = r.cells.length := by simp [ownOf]
      refine WN.call prg [] [160] (by simp) rfl (by simp; rfl) (by simp) (CallsA.at (by simp [hkk, List.take_of_length_le, hgm]) (by simp) (c_specRuleMasks r (gridMasks g n) n hr hm)) ?_
      rintro _ _ ⟨rfl, rfl⟩
      refine ⟨_, by simp; rfl, ?_⟩
      refine WN.op prg (by simp) (by simp; rfl) (by first | (simp; done) | (simp; omega)) ?_
      refine WN.op prg (by simp) (by simp; rfl) (by first | (simp; done) | (simp; omega)) ?_
      refine WN.op prg (by simp) (by simp; rfl) (by simp) ?_
      refine WN.op prg (by simp) (by simp; rfl) (by simp) ?_
      refine WN.keep [6] ?_
      refine WP.ret (DoneQ.ret [] (by simp; rfl) (by simp; rfl) ?_)
      exact ⟨rfl, by simp [canHold, masks_cell hr hg, bne, beq_dec]⟩
end Go.Proofs.Ytaicenafkjbnoaa

