/- Contracts: the ways of a rule (reference). -/
import Derived.Test.YtaicenafkjbnoaaC7
set_option linter.unusedVariables false
set_option linter.unusedSimpArgs false
namespace Go.Proofs.Ytaicenafkjbnoaa
open Go Go.AM
set_option maxRecDepth 100000

theorem DoneQ.nrm {tv : TV} {s : St} {results : Array ResultVar} {hin : Heap} {post : LV → Heap → Prop} (ms : List Nat) {vs : List V} {ho : Heap} (h1 : resVs tv s results.toList = some vs) (h2 : lvH s.heap (hin.map (·.1)) ms = some ho)
    (h3 : post (lvRes s.heap (hin.map (·.1)) ms vs) ho) : DoneQ tv results hin post .normal s := DoneQ.ret ms h1 h2 h3
theorem nodup_take_iff {vs : List Int} {k : Nat} (hk : k < vs.length) : (vs.take (k + 1)).Nodup ↔ (vs.take k).Nodup ∧ ∀ q, q < k → vs[q]?.getD 0 ≠ vs[k]?.getD 0 := by
  constructor
  · intro h
    rw [take_snoc (List.getElem?_eq_getElem hk), List.nodup_append] at h
    refine ⟨h.1, fun q hq => ?_⟩
    rw [List.getElem?_eq_getElem hk]
    exact h.2.2 _ (in_take hq (by omega)) _ (by simp)
  · rintro ⟨h1, h2⟩
    exact nodup_step h1 hk (notin_take (by omega) h2)
theorem all_lt_succ (p : Nat → Prop) [DecidablePred p] (j : Nat) : (∀ q, q < j + 1 → p q) ↔ (∀ q, q < j → p q) ∧ p j := by
  constructor
  · exact fun h => ⟨fun q hq => h q (by omega), h j (by omega)⟩
  · rintro ⟨h1, h2⟩ q hq
    by_cases e : q = j
    · subst e; exact h2
    · exact h1 q (by omega)
theorem c_l4Holds (r : Rule) (vs : List Int) (hv : VsOk vs) (hk2 : r.kind = 4 ∨ r.kind = 5 → vs.length = 2) (hk : 1 ≤ r.kind ∧ r.kind ≤ 5) : CallsA Try.prog 187 [r.v false, .c (.dsl false (.ints .i64 (vs)))] [] fun x ho => ho = [] ∧ x = .v (.c (.bool (holdsV r vs))) := by
  have hv4 := hv.1
  have hkd := hk
  unfold Rule.v
  refine CallsA.of (tv := tyOf Try.prog) (fn := Try.f187) prg.tv Try.func187 rfl rfl (by simp) ?_
  refine WP.seq ?_
  refine WP.regN prg (by kernel_rfl) ?_ -- region 0
  refine WN.op prg (by simp) (by simp; rfl) (by simp) ?_
  refine WN.op prg (by simp) (by simp; rfl) (by simp) ?_
  refine WN.keep [1, 2] ?_
  refine WP.seq ?_
  refine WP.regN prg (by kernel_rfl) ?_ -- region 1
  refine WN.op prg (by simp) (by simp; rfl) (by simp) ?_
  refine WN.keep [1, 2, 5] ?_
  refine WP.seq ?_
  refine WP.regN prg (by kernel_rfl) ?_ -- region 2
  refine WN.op prg (by simp) (by simp; rfl) (by simp) ?_
  refine WN.keep [1, 2, 5, 6] ?_
  refine WP.seq ?_
  refine WP.regN prg (by kernel_rfl) ?_ -- region 3
  refine WN.op prg (by simp) (by simp; rfl) (by simp) ?_
  refine WN.keep [1, 2, 5, 6, 7] ?_
  refine WP.seq ?_
  refine WP.seq ?_
  refine WP.regN prg (by kernel_rfl) ?_ -- region 4
  refine WN.op prg (by simp) (by simp; rfl) (by simp) ?_
  refine WN.keep [1, 2, 5, 6, 7, 8] ?_
  refine WP.block ?_
  refine WP.loopU (vs.length) (fun k => [(5, .v (.c (.int .i64 ((vs.take k).sum)))), (6, .v (.c (.int .i64 ((vs.take k).foldl (· * ·) 1)))), (7, .v (.c (.bool (decide (vs.take k).Nodup)))), (8, .v (.c (.int .i64 (k))))]) (fun k => []) (fun k => True) (fun k => by simp [putAll]; rfl) (fun k => by simp; rfl) (by simp) (by simp) (by simp) ?_
  intro k hk _
  refine WP.seq ?_
  refine WP.seq ?_
  refine WP.regN prg (by kernel_rfl) ?_ -- region 5
  refine WN.op prg (by simp) (by simp; rfl) (by simp) ?_
  refine WN.op prg (by simp) (by simp; rfl) (by simp) ?_
  refine WN.op prg (by simp) (by simp; rfl) (by simp) ?_
  refine WN.op prg (by simp) (by simp; rfl) (by simp) ?_
  refine WN.keep [1, 2, 5, 6, 7, 8, 14] ?_
  refine WP.cond (by first | rfl | (simp; rfl)) (fun hb => ?_) (fun hb => ?_)
  · try simp at hb
    refine WP.skip ?_
    refine WP.seq ?_
    refine WP.block ?_
    refine WP.seq ?_
    refine WP.regN prg (by kernel_rfl) ?_ -- region 7
    refine WN.op prg (by simp) (by simp; rfl) (by simp) ?_
    refine WN.op prg (by simp) (by simp; rfl) (by simp) ?_
    refine WN.op prg (by simp) (by simp; rfl) (by simp) ?_
    refine WN.op prg (by simp) (by simp; rfl) (by first | (simp; done) | (simp; omega)) ?_
    refine WN.op prg (by simp) (by simp; rfl) (by first | (simp; done) | (simp; omega)) ?_
    refine WN.op prg (by simp) (by simp; rfl) (by simp) ?_
    refine WN.op prg (by simp) (by simp; rfl) (by simp) ?_
    refine WN.keep [1, 2, 5, 6, 7, 8] ?_
    refine WP.seq ?_
    refine WP.regN prg (by kernel_rfl) ?_ -- region 8
    refine WN.op prg (by simp) (by simp; rfl) (by simp) ?_
    refine WN.op prg (by simp) (by simp; rfl) (by simp) ?_
    refine WN.op prg (by simp) (by simp; rfl) (by simp) ?_
    refine WN.op prg (by simp) (by simp; rfl) (by first | (simp; done) | (simp; omega)) ?_
    refine WN.op prg (by simp) (by simp; rfl) (by first | (simp; done) | (simp; omega)) ?_
    refine WN.op prg (by simp) (by simp; rfl) (by simp) ?_
    refine WN.op prg (by simp) (by simp; rfl) (by simp) ?_
    refine WN.keep [1, 2, 5, 6, 7, 8] ?_
    refine WP.seq ?_
    refine WP.regN prg (by kernel_rfl) ?_ -- region 9
    refine WN.op prg (by simp) (by simp; rfl) (by simp) ?_
    refine WN.keep [1, 2, 5, 6, 7, 8, 9] ?_
    refine WP.block ?_
    have hkl := hb
    refine WP.loopU (k) (fun j => [(7, .v (.c (.bool (decide (vs.take k).Nodup && decide (∀ q, q < j → vs[q]?.getD 0 ≠ vs[k]?.getD 0))))), (9, .v (.c (.int .i64 (j))))]) (fun j => []) (fun j => True) (fun k => by simp [putAll]; rfl) (fun k => by simp; rfl) (by simp) (by simp) (by simp) ?_
    intro j hk _
    refine WP.seq ?_
    refine WP.seq ?_
    refine WP.regN prg (by kernel_rfl) ?_ -- region 10
    refine WN.op prg (by simp) (by simp; rfl) (by simp) ?_
    refine WN.op prg (by simp) (by simp; rfl) (by simp) ?_
    refine WN.op prg (by simp) (by simp; rfl) (by simp) ?_
    refine WN.keep [1, 2, 5, 6, 7, 8, 9, 31] ?_
    refine WP.cond (by first | rfl | (simp; rfl)) (fun hb => ?_) (fun hb => ?_)
    · try simp at hb
      refine WP.skip ?_
      refine WP.seq ?_
      refine WP.block ?_
      refine WP.reg prg (by kernel_rfl) ?_ -- region 12 DRAWS
      refine WS.d (by simp) (by simp; rfl) (by simp) (by kernel_rfl) ?_
      refine WS.d (by simp) (by simp; rfl) (by simp) (by kernel_rfl) ?_
      refine WS.cases 35 (by simp; rfl) (fun hg35 => ?_) (fun hg35 => ?_)
      · refine WS.d (by simp) (by simp; rfl) (by simp) (by kernel_rfl) ?_
        refine WS.d (by simp) (by simp; rfl) (by simp) (by kernel_rfl) ?_
        refine WS.d (by simp) (by simp; rfl) (by first | (simp; done) | (simp; omega)) (by kernel_rfl) ?_
        refine WS.d (by simp) (by simp; rfl) (by first | (simp; done) | (simp; omega)) (by kernel_rfl) ?_
        refine WS.d (by simp) (by simp; rfl) (by simp) (by kernel_rfl) ?_
        refine WS.d (by simp) (by simp; rfl) (by simp) (by kernel_rfl) ?_
        refine WS.d (by simp) (by simp; rfl) (by first | (simp; done) | (simp; omega)) (by kernel_rfl) ?_
        refine WS.d (by simp) (by simp; rfl) (by first | (simp; done) | (simp; omega)) (by kernel_rfl) ?_
        refine WS.d (by simp) (by simp; rfl) (by simp) (by kernel_rfl) ?_
        refine WS.d (by simp) (by simp; rfl) (by simp) (by kernel_rfl) ?_
        refine WS.d (by simp) (by simp; rfl) (by simp) (by kernel_rfl) ?_
        refine WS.keep [1, 2, 5, 6, 7, 8, 9] ?_
        refine WP.regN prg (by kernel_rfl) ?_ -- region 11
        refine WN.op prg (by simp) (by simp; rfl) (by simp) ?_
        refine WN.op prg (by simp) (by simp; rfl) (by simp) ?_
        refine WN.op prg (by simp) (by simp; rfl) (by simp) ?_
        refine WN.keep [1, 2, 5, 6, 7, 8, 9] ?_
        refine ⟨by omega, trivial, ?_⟩
        simp only [Bool.and_eq_true] at hg35
        have := all_lt_succ (fun q => vs[q]?.getD 0 ≠ vs[k]?.getD 0) j
        simp [this, wrap_id (n := (j : Int) + 1) (by omega) (by omega)]
        simp at hg35
        rw [Bool.eq_iff_iff]
        simp [hg35.1]
        exact fun _ => hg35.2
      · refine WS.skipD (by simp) (by kernel_rfl) ?_
        refine WS.skipD (by simp) (by kernel_rfl) ?_
        refine WS.skipD (by simp) (by kernel_rfl) ?_
        refine WS.skipD (by simp) (by kernel_rfl) ?_
        refine WS.skipD (by simp) (by kernel_rfl) ?_
        refine WS.skipD (by simp) (by kernel_rfl) ?_
        refine WS.skipD (by simp) (by kernel_rfl) ?_
        refine WS.skipD (by simp) (by kernel_rfl) ?_
        refine WS.skipD (by simp) (by kernel_rfl) ?_
        refine WS.d (by simp) (by simp; rfl) (by simp) (by kernel_rfl) ?_
        refine WS.d (by simp) (by simp; rfl) (by simp) (by kernel_rfl) ?_
        refine WS.keep [1, 2, 5, 6, 7, 8, 9] ?_
        refine WP.regN prg (by kernel_rfl) ?_ -- region 11
        refine WN.op prg (by simp) (by simp; rfl) (by simp) ?_
        refine WN.op prg (by simp) (by simp; rfl) (by simp) ?_
        refine WN.op prg (by simp) (by simp; rfl) (by simp) ?_
        refine WN.keep [1, 2, 5, 6, 7, 8, 9] ?_
        refine ⟨by omega, trivial, ?_⟩
        simp only [Bool.and_eq_false_iff] at hg35
        have := all_lt_succ (fun q => vs[q]?.getD 0 ≠ vs[k]?.getD 0) j
        simp [this, wrap_id (n := (j : Int) + 1) (by omega) (by omega)]
        simp at hg35
        intro h1 h2
        rcases hg35 with h3 | ⟨x, h3, h4⟩
        · exact absurd h1 h3
        · exact absurd h4 (h2 x h3)
    · try simp at hb
      refine WP.exit ?_
      refine WP.regN prg (by kernel_rfl) ?_ -- region 6
      refine WN.op prg (by simp) (by simp; rfl) (by simp) ?_
      refine WN.op prg (by simp) (by simp; rfl) (by simp) ?_
      refine WN.op prg (by simp) (by simp; rfl) (by simp) ?_
      refine WN.keep [1, 2, 5, 6, 7, 8] ?_
      have hjk : j = k := by omega
      subst hjk
      obtain ⟨b1, b2, b3, b4⟩ := bounds_vs hv (show j ≤ vs.length by omega)
      obtain ⟨d1, d2⟩ := hv.get j
      have d3 := prod_take vs hkl
      have d4 := (bounds_vs hv (show j + 1 ≤ vs.length by omega))
      rw [d3, sum_take vs hkl] at d4
      have d5 := nodup_take_iff hkl
      refine ⟨by omega, trivial, ?_⟩
      rw [d3, sum_take vs hkl]
      simp [d5, wrap_id (n := (j : Int) + 1) (by omega) (by omega), wrap_id (n := (vs.take j).sum + vs[j]?.getD 0) (by omega) (by omega), wrap_id (n := (vs.take j).foldl (· * ·) 1 * vs[j]?.getD 0) (by omega) (by omega)]
  · try simp at hb
    refine WP.exit ?_
    refine WP.seq ?_
    refine WP.seq ?_
    refine WP.regN prg (by kernel_rfl) ?_ -- region 13
    refine WN.op prg (by simp) (by simp; rfl) (by simp) ?_
    refine WN.op prg (by simp) (by simp; rfl) (by first | (simp; done) | (simp; omega)) ?_
    refine WN.keep [1, 2, 5, 6, 7, 47] ?_
    refine WP.block ?_
    refine WP.seq ?_
    refine WP.regN prg (by kernel_rfl) ?_ -- region 14
    refine WN.op prg (by simp) (by simp; rfl) (by simp) ?_
    refine WN.op prg (by simp) (by simp; rfl) (by simp) ?_
    refine WN.keep [1, 2, 5, 6, 7, 47, 48] ?_
    refine WP.cond (by first | rfl | (simp; rfl)) (fun hb => ?_) (fun hb => ?_)
    · try simp at hb
      refine WP.seq ?_
      refine WP.regN prg (by kernel_rfl) ?_ -- region 15
      refine WN.op prg (by simp) (by simp; rfl) (by simp) ?_
      refine WN.op prg (by simp) (by simp; rfl) (by simp) ?_
      refine WN.keep [4] ?_
      refine WP.ret (DoneQ.ret [] (by simp; rfl) (by simp; rfl) ?_)
      have hq : r.kind = 1 := hb
      have hkk : k = vs.length := by omega
      exact ⟨rfl, by simp [holdsV, hq, beq_dec, hkk]⟩
    · try simp at hb
      refine WP.seq ?_
      refine WP.regN prg (by kernel_rfl) ?_ -- region 16
      refine WN.op prg (by simp) (by simp; rfl) (by simp) ?_
      refine WN.op prg (by simp) (by simp; rfl) (by simp) ?_
      refine WN.keep [1, 2, 5, 6, 47, 51] ?_
      refine WP.cond (by first | rfl | (simp; rfl)) (fun hb => ?_) (fun hb => ?_)
      · try simp at hb
        refine WP.seq ?_
        refine WP.regN prg (by kernel_rfl) ?_ -- region 17
        refine WN.op prg (by simp) (by simp; rfl) (by simp) ?_
        refine WN.op prg (by simp) (by simp; rfl) (by simp) ?_
        refine WN.op prg (by simp) (by simp; rfl) (by first | (simp; done) | (simp; omega)) ?_
        refine WN.op prg (by simp) (by simp; rfl) (by simp) ?_
        refine WN.op prg (by simp) (by simp; rfl) (by simp) ?_
        refine WN.keep [4] ?_
        refine WP.ret (DoneQ.ret [] (by simp; rfl) (by simp; rfl) ?_)
        have hq : r.kind = 2 := hb
        have hkk : k = vs.length := by omega
        exact ⟨rfl, by simp [holdsV, hq, beq_dec, hkk]⟩
      · try simp at hb
        refine WP.seq ?_
        refine WP.regN prg (by kernel_rfl) ?_ -- region 18
        refine WN.op prg (by simp) (by simp; rfl) (by simp) ?_
        refine WN.op prg (by simp) (by simp; rfl) (by simp) ?_
        refine WN.keep [1, 2, 6, 47, 57] ?_
        refine WP.cond (by first | rfl | (simp; rfl)) (fun hb => ?_) (fun hb => ?_)
        · try simp at hb
          refine WP.seq ?_
          refine WP.regN prg (by kernel_rfl) ?_ -- region 19
          refine WN.op prg (by simp) (by simp; rfl) (by simp) ?_
          refine WN.op prg (by simp) (by simp; rfl) (by simp) ?_
          refine WN.op prg (by simp) (by simp; rfl) (by first | (simp; done) | (simp; omega)) ?_
          refine WN.op prg (by simp) (by simp; rfl) (by simp) ?_
          refine WN.op prg (by simp) (by simp; rfl) (by simp) ?_
          refine WN.keep [4] ?_
          refine WP.ret (DoneQ.ret [] (by simp; rfl) (by simp; rfl) ?_)
          have hq : r.kind = 3 := hb
          have hkk : k = vs.length := by omega
          exact ⟨rfl, by simp [holdsV, hq, beq_dec, hkk]⟩
        · try simp at hb
          refine WP.seq ?_
          refine WP.regN prg (by kernel_rfl) ?_ -- region 20
          refine WN.op prg (by simp) (by simp; rfl) (by simp) ?_
          refine WN.op prg (by simp) (by simp; rfl) (by simp) ?_
          refine WN.keep [1, 2, 63] ?_
          refine WP.cond (by first | rfl | (simp; rfl)) (fun hb => ?_) (fun hb => ?_)
          · try simp at hb
            refine WP.seq ?_
            refine WP.reg prg (by kernel_rfl) ?_ -- region 21 DRAWS
            refine WS.d (by simp) (by simp; rfl) (by simp) (by kernel_rfl) ?_
            refine WS.d (by simp) (by simp; rfl) (by first | (simp; done) | (simp; omega)) (by kernel_rfl) ?_
            refine WS.d (by simp) (by simp; rfl) (by first | (simp; done) | (simp; omega)) (by kernel_rfl) ?_
            refine WS.d (by simp) (by simp; rfl) (by simp) (by kernel_rfl) ?_
            refine WS.d (by simp) (by simp; rfl) (by first | (simp; done) | (simp; omega)) (by kernel_rfl) ?_
            refine WS.d (by simp) (by simp; rfl) (by first | (simp; done) | (simp; omega)) (by kernel_rfl) ?_
            refine WS.d (by simp) (by simp; rfl) (by simp) (by kernel_rfl) ?_
            refine WS.d (by simp) (by simp; rfl) (by simp) (by kernel_rfl) ?_
            refine WS.keep [4] ?_
            refine WP.ret (DoneQ.ret [] (by simp; rfl) (by simp; rfl) ?_)
            have hq : r.kind = 4 := hb
            exact ⟨rfl, by simp [holdsV, hq, beq_dec]⟩
          · try simp at hb
            refine WP.skip ?_
            refine WP.seq ?_
            refine WP.reg prg (by kernel_rfl) ?_ -- region 22 DRAWS
            refine WS.d (by simp) (by simp; rfl) (by simp) (by kernel_rfl) ?_
            refine WS.d (by simp) (by simp; rfl) (by first | (simp; done) | (simp; omega)) (by kernel_rfl) ?_
            refine WS.d (by simp) (by simp; rfl) (by first | (simp; done) | (simp; omega)) (by kernel_rfl) ?_
            refine WS.d (by simp) (by simp; rfl) (by simp) (by kernel_rfl) ?_
            refine WS.d (by simp) (by simp; rfl) (by first | (simp; done) | (simp; omega)) (by kernel_rfl) ?_
            refine WS.d (by simp) (by simp; rfl) (by first | (simp; done) | (simp; omega)) (by kernel_rfl) ?_
            refine WS.d (by simp) (by simp; rfl) (by simp) (by kernel_rfl) ?_
            refine WS.d (by simp) (by simp; rfl) (by simp) (by kernel_rfl) ?_
            refine WS.keep [2, 10] ?_
            refine WP.seq ?_
            refine WP.regN prg (by kernel_rfl) ?_ -- region 23
            refine WN.op prg (by simp) (by simp; rfl) (by simp) ?_
            refine WN.op prg (by simp) (by simp; rfl) (by simp) ?_
            refine WN.op prg (by simp) (by simp; rfl) (by simp) ?_
            refine WN.op prg (by simp) (by simp; rfl) (by simp) ?_
            refine WN.op prg (by simp) (by simp; rfl) (by simp) ?_
            refine WN.op prg (by simp) (by simp; rfl) (by first | (simp; done) | (simp; omega)) ?_
            refine WN.op prg (by simp) (by simp; rfl) (by simp) ?_
            refine WN.op prg (by simp) (by simp; rfl) (by simp) ?_
            refine WN.keep [4] ?_
            refine WP.ret (DoneQ.ret [] (by simp; rfl) (by simp; rfl) ?_)
            have hq : r.kind = 5 := by omega
            refine ⟨rfl, ?_⟩
            obtain ⟨d1, d2⟩ := hv.get 0
            obtain ⟨d3, d4⟩ := hv.get 1
            rw [wrap_id (n := vs[0]?.getD 0 - vs[1]?.getD 0) (by omega) (by omega)]
            simp [holdsV, hq, beq_dec, Int.max_def]
            rw [wrap_id (by omega) (by omega)]
            split <;> split <;> omega
/-- What is left of the ways of a rule behind some values. -/
def waysAt (r : Rule) (ms vs found : List Int) : List Int := waysO r ((r.cells.map fun c => maskVals (getI ms c)).drop vs.length) vs found
theorem waysAt_full {r : Rule} {ms vs found : List Int} (h : vs.length = r.cells.length) : waysAt r ms vs found = if holdsV r vs = true then orAll found vs else found := by
  unfold waysAt
  rw [List.drop_eq_nil_of_le (by simp; omega)]
  rfl
theorem waysAt_step {r : Rule} {ms vs found : List Int} (h : vs.length < r.cells.length) :
    waysAt r ms vs found = (maskVals (getI ms (r.cells[vs.length]?.getD 0))).foldl (fun f v => waysAt r ms (vs ++ [v]) f) found := by
  unfold waysAt
  rw [List.drop_eq_getElem_cons (by simpa using h)]
  simp only [waysO, List.getElem_map, List.length_append, List.length_cons, List.length_nil, Nat.zero_add, List.getElem?_eq_getElem h, Option.getD_some]
/-- What is found for the cells of a rule: masks. -/
def FOk (n : Nat) (f : List Int) : Prop := f.length = n ∧ ∀ x ∈ f, 0 ≤ x ∧ x < 32
theorem FOk.get {n : Nat} {f : List Int} (h : FOk n f) (k : Nat) : 0 ≤ f[k]?.getD 0 ∧ f[k]?.getD 0 < 32 := by
  cases hk : f[k]? with
  | none => simp
  | some v => exact h.2 v (List.mem_of_getElem? hk)
def orK (f vs : List Int) : Nat → List Int
  | 0 => f
  | k + 1 => (orK f vs k).set k (orI ((orK f vs k)[k]?.getD 0) (one (vs[k]?.getD 0)))
@[simp] theorem orK_zero (f vs : List Int) : orK f vs 0 = f := rfl
theorem orK_len (f vs : List Int) : ∀ k, (orK f vs k).length = f.length
  | 0 => rfl
  | k + 1 => by simp [orK, orK_len f vs k]
theorem orK_get (f vs : List Int) : ∀ k i, (orK f vs k)[i]? = if i < k then (f[i]?).map (fun x => orI x (one (vs[i]?.getD 0))) else f[i]?
  | 0, i => by simp [orK]
  | k + 1, i => by
    simp only [orK, List.getElem?_set, orK_len]
    by_cases h : k = i
    · subst h
      have h1 := orK_get f vs k k
      rw [if_neg (by omega)] at h1
      rw [if_pos rfl, if_pos (show k < k + 1 by omega), h1]
      by_cases hk : k < f.length
      · rw [if_pos hk, List.getElem?_eq_getElem hk]
        rfl
      · rw [if_neg hk, List.getElem?_eq_none (show f.length ≤ k by omega)]
        rfl
    · rw [if_neg h, orK_get f vs k i]
      by_cases h2 : i < k
      · rw [if_pos h2, if_pos (by omega)]
      · rw [if_neg h2, if_neg (by omega)]
theorem orK_all {f vs : List Int} (h : f.length = vs.length) : orK f vs vs.length = orAll f vs := by
  apply List.ext_getElem?
  intro i
  rw [orK_get]
  unfold orAll
  rw [List.getElem?_zipWith]
  by_cases hi : i < vs.length
  · rw [if_pos hi, List.getElem?_eq_getElem hi, List.getElem?_eq_getElem (show i < f.length by omega)]
    simp
  · rw [if_neg hi, List.getElem?_eq_none (by omega), List.getElem?_eq_none (by omega)]
theorem orK_ok {n : Nat} {f vs : List Int} (hf : FOk n f) (hv : VsOk vs) : ∀ k, FOk n (orK f vs k)
  | 0 => hf
  | k + 1 => by
    have ih := orK_ok hf hv k
    refine ⟨by simp [orK, ih.1], fun x hx => ?_⟩
    rcases List.mem_or_eq_of_mem_set hx with hx | rfl
    · exact ih.2 x hx
    · have := one_le (v := vs[k]?.getD 0) (hv.get k).1 (by have := (hv.get k).2; omega)
      exact orI_lt (ih.get k).2 (by omega)
theorem maskVals_get {m : Int} {v : Int} (h : v ∈ maskVals m) : 1 ≤ v ∧ v ≤ 4 := by
  unfold maskVals at h
  split at h
  · have := (List.mem_filter.1 h).1
    simp at this
    omega
  · simp at h
theorem maskVals_len (m : Int) : (maskVals m).length ≤ 4 := by
  unfold maskVals
  split
  · exact Nat.le_trans (List.length_filter_le _ _) (by simp)
  · simp
theorem waysO_ok {n : Nat} (r : Rule) : ∀ (L : List (List Int)) (vs f : List Int), (∀ l ∈ L, ∀ v ∈ l, 0 ≤ v ∧ v ≤ 4) → vs.length + L.length = n → n ≤ 4 → VsOk vs → FOk n f → FOk n (waysO r L vs f)
  | [], vs, f, _, hl, h4, hv, hf => by
    unfold waysO
    split
    · have := orK_ok hf hv vs.length
      rwa [orK_all (by have := hf.1; simp at hl; omega)] at this
    · exact hf
  | l :: ls, vs, f, hL, hl, h4, hv, hf => by
    unfold waysO
    have hls : ∀ l ∈ ls, ∀ v ∈ l, 0 ≤ v ∧ v ≤ 4 := fun l h => hL l (by simp [h])
    have hlv : ∀ v ∈ l, 0 ≤ v ∧ v ≤ 4 := hL l (by simp)
    have hl' : vs.length + (ls.length + 1) = n := by simpa using hl
    clear hL hl
    induction l generalizing f with
    | nil => exact hf
    | cons v r' ih =>
      simp only [List.foldl_cons]
      refine ih _ (waysO_ok r ls (vs ++ [v]) f hls (by simp; omega) h4 ⟨by simp; omega, fun x hx => ?_⟩ hf) (fun v h => hlv v (by simp [h]))
      rcases List.mem_append.1 hx with hx | hx
      · exact hv.2 x hx
      · simp at hx; subst hx; exact hlv x (by simp)
structure WayPre (r : Rule) (ms : List Int) : Prop where
  kind : 1 ≤ r.kind ∧ r.kind ≤ 5
  two : r.kind = 4 ∨ r.kind = 5 → r.cells.length = 2
  len : r.cells.length ≤ 4
  cell : ∀ c ∈ r.cells, 0 ≤ c ∧ c < ms.length
  mask : ∀ m ∈ ms, maskOk 4 m = true
  mlen : ms.length ≤ 16
theorem WayPre.at_ {r : Rule} {ms : List Int} (h : WayPre r ms) {k : Nat} (hk : k < r.cells.length) : 0 ≤ r.cells[k]?.getD 0 ∧ r.cells[k]?.getD 0 < ms.length := by
  rw [List.getElem?_eq_getElem hk]
  exact h.cell _ (List.getElem_mem hk)
theorem waysAt_ok {r : Rule} {ms vs f : List Int} (h : WayPre r ms) (hl : vs.length ≤ r.cells.length) (hv : VsOk vs) (hf : FOk r.cells.length f) : FOk r.cells.length (waysAt r ms vs f) := by
  refine waysO_ok r _ vs f (fun l hl v hv => ?_) (by simp; omega) h.len hv hf
  have := List.mem_of_mem_drop hl
  obtain ⟨c, _, rfl⟩ := List.mem_map.1 this
  have := maskVals_get hv
  omega
theorem foldl_take {α β : Type} (g : β → α → β) (b : β) {l : List α} {k : Nat} {x : α} (h : l[k]? = some x) : (l.take (k + 1)).foldl g b = g ((l.take k).foldl g b) x := by
  rw [take_snoc h, List.foldl_append]
  rfl
theorem waysFold_ok {r : Rule} {ms vs f : List Int} (h : WayPre r ms) (hl : vs.length < r.cells.length) (hv : VsOk vs) (hf : FOk r.cells.length f) (l : List Int) (hL : ∀ v ∈ l, 0 ≤ v ∧ v ≤ 4) : FOk r.cells.length (l.foldl (fun f v => waysAt r ms (vs ++ [v]) f) f) := by
  induction l generalizing f with
  | nil => exact hf
  | cons v l ih =>
    simp only [List.foldl_cons]
    refine ih (waysAt_ok h (by simp; omega) ⟨by have := h.len; simp; omega, fun x hx => ?_⟩ hf) (fun v h => hL v (by simp [h]))
    rcases List.mem_append.1 hx with hx | hx
    · exact hv.2 x hx
    · simp at hx; subst hx; exact hL x (by simp)
theorem w_l4Ways (r : Rule) (ms vs found : List Int) (hp : WayPre r ms) (hv : VsOk vs) (hl : vs.length ≤ r.cells.length) (hf : FOk r.cells.length found)
    (ih : ∀ vs' found', VsOk vs' → vs'.length = vs.length + 1 → vs'.length ≤ r.cells.length → FOk r.cells.length found' → CallsA Try.prog 180 [r.v false, .c (.dsl false (.ints .i64 (ms))), .c (.dsl false (.ints .i64 (vs'))), .c (.osl 8000 0 0 r.cells.length)] [(8000, .arr 0 true (.ints .i64 found'))] fun x ho => ho = [(8000, .arr 0 true (.ints .i64 (waysAt r ms vs' found')))] ∧ x = .tup []) :
    CallsA Try.prog 180 [r.v false, .c (.dsl false (.ints .i64 (ms))), .c (.dsl false (.ints .i64 (vs))), .c (.osl 8000 0 0 r.cells.length)] [(8000, .arr 0 true (.ints .i64 found))] fun x ho => ho = [(8000, .arr 0 true (.ints .i64 (waysAt r ms vs found)))] ∧ x = .tup [] := by
  have hp4 := hp.len
  have hfl := hf.1
  have hml := hp.mlen
  unfold Rule.v
  refine CallsA.of (tv := tyOf Try.prog) (fn := Try.f180) prg.tv Try.func180 rfl rfl (by simp) ?_
  refine WP.seq ?_
  refine WP.regN prg (by kernel_rfl) ?_ -- region 0
  refine WN.op prg (by simp) (by simp; rfl) (by simp) ?_
  refine WN.keep [1, 2, 3, 4] ?_
  refine WP.seq ?_
  refine WP.regN prg (by kernel_rfl) ?_ -- region 1
  refine WN.op prg (by simp) (by simp; rfl) (by simp) ?_
  refine WN.op prg (by simp) (by simp; rfl) (by simp) ?_
  refine WN.op prg (by simp) (by simp; rfl) (by simp) ?_
  refine WN.keep [1, 2, 3, 4, 8] ?_
  refine WP.seq ?_
  refine WP.seq ?_
  refine WP.regN prg (by kernel_rfl) ?_ -- region 2
  refine WN.op prg (by simp) (by simp; rfl) (by simp) ?_
  refine WN.op prg (by simp) (by simp; rfl) (by simp) ?_
  refine WN.op prg (by simp) (by simp; rfl) (by first | (simp; done) | (simp; omega)) ?_
  refine WN.op prg (by simp) (by simp; rfl) (by simp) ?_
  refine WN.op prg (by simp) (by simp; rfl) (by simp) ?_
  refine WN.keep [1, 2, 3, 4, 8, 18] ?_
  refine WP.cond (by first | rfl | (simp; rfl)) (fun hb => ?_) (fun hb => ?_)
  · try simp at hb
    refine WP.seq ?_
    refine WP.seq ?_
    refine WP.regN prg (by kernel_rfl) ?_ -- region 3
    refine WN.op prg (by simp) (by simp; rfl) (by first | (simp; done) | (simp; omega)) ?_
    refine WN.op prg (by simp) (by simp; rfl) (by simp) ?_
    have hfull : vs.length = r.cells.length := by omega
    refine WN.call prg [] [] (by simp) rfl (by simp; rfl) (by simp) (CallsA.at (by simp) (by simp) (c_l4Holds r vs hv (fun h => by rw [hfull]; exact hp.two h) hp.kind)) ?_
    rintro _ _ ⟨rfl, rfl⟩
    refine ⟨_, by simp; rfl, ?_⟩
    refine WN.keep [2, 3, 8, 21] ?_
    refine WP.cond (by first | rfl | (simp; rfl)) (fun hb => ?_) (fun hb => ?_)
    · try simp at hb
      refine WP.seq ?_
      refine WP.regN prg (by kernel_rfl) ?_ -- region 4
      refine WN.op prg (by simp) (by simp; rfl) (by simp) ?_
      refine WN.keep [2, 3, 8, 9] ?_
      refine WP.block ?_
      rename_i hyes
      refine WP.loopU (vs.length) (fun k => [(9, .v (.c (.int .i64 (k))))]) (fun k => [(8000, .arr 0 true (.ints .i64 (orK found vs k)))]) (fun k => True) (fun k => by simp [putAll]; rfl) (fun k => by simp; rfl) (by simp) (by simp) (by simp) ?_
      intro k hk _
      obtain ⟨d1, d2⟩ := hv.get k
      have d3 := orK_len found vs k
      refine WP.seq ?_
      refine WP.seq ?_
      refine WP.regN prg (by kernel_rfl) ?_ -- region 5
      refine WN.op prg (by simp) (by simp; rfl) (by simp) ?_
      refine WN.op prg (by simp) (by simp; rfl) (by simp) ?_
      refine WN.op prg (by simp) (by simp; rfl) (by simp) ?_
      refine WN.keep [2, 3, 8, 9, 24] ?_
      refine WP.cond (by first | rfl | (simp; rfl)) (fun hb => ?_) (fun hb => ?_)
      · try simp at hb
        refine WP.skip ?_
        refine WP.seq ?_
        refine WP.block ?_
        refine WP.reg prg (by kernel_rfl) ?_ -- region 7 DRAWS
        refine WS.d (by simp) (by simp; rfl) (by simp) (by kernel_rfl) ?_
        refine WS.d (by simp) (by simp; rfl) (by simp) (by kernel_rfl) ?_
        refine WS.d (by simp) (by simp; rfl) (by simp) (by kernel_rfl) ?_
        refine WS.d (by simp) (by simp; rfl) (by simp) (by kernel_rfl) ?_
        refine WS.d (by simp) (by simp; rfl) (by first | (simp; done) | (simp; omega)) (by kernel_rfl) ?_
        refine WS.d (by simp) (by simp; rfl) (by first | (simp; done) | (simp; omega)) (by kernel_rfl) ?_
        refine WS.d (by simp) (by simp; rfl) (by simp) (by kernel_rfl) ?_
        refine WS.d (by simp) (by simp; rfl) (by simp) (by kernel_rfl) ?_
        refine WS.d (by simp) (by simp; rfl) (by first | (simp; done) | (simp; omega)) (by kernel_rfl) ?_
        refine WS.d (by simp) (by simp; rfl) (by first | (simp; done) | (simp; omega)) (by kernel_rfl) ?_
        refine WS.d (by simp) (by simp; rfl) (by first | (simp; done) | (simp; omega)) (by kernel_rfl) ?_
        refine WS.d (by simp) (by simp; rfl) (by simp) (by kernel_rfl) ?_
        refine WS.d (by simp) (by simp; rfl) (by first | (simp; done) | (simp; omega)) (by kernel_rfl) ?_
        refine WS.d (by simp) (by simp; rfl) (by first | (simp; done) | (simp; omega)) (by kernel_rfl) ?_
        refine WS.keep [2, 3, 8, 9] ?_
        refine WP.regN prg (by kernel_rfl) ?_ -- region 6
        refine WN.op prg (by simp) (by simp; rfl) (by simp) ?_
        refine WN.op prg (by simp) (by simp; rfl) (by simp) ?_
        refine WN.op prg (by simp) (by simp; rfl) (by simp) ?_
        refine WN.keep [2, 3, 8, 9] ?_
        have e1 := shl_one' d1 (by omega)
        have e2 := one_le d1 (by omega)
        have e3 := (orK_ok hf hv k).get k
        have e4 := bits_or e3.1 (by omega) (show 0 ≤ one (vs[k]?.getD 0) by omega) (by omega)
        exact ⟨by omega, trivial, by simp [e1, e4, orK, wrap_id (n := (k : Int) + 1) (by omega) (by omega)]⟩
      · try simp at hb
        refine WP.exit ?_
        refine WP.ret (DoneQ.ret [] (by simp; rfl) (by simp; rfl) ?_)
        have hkk : k = vs.length := by omega
        have hh : holdsV r vs = true := ‹_›
        exact ⟨by simp [waysAt_full hfull, hh, hkk, orK_all (hfl.trans hfull.symm)], by simp⟩
    · try simp at hb
      refine WP.skip ?_
      refine WP.ret (DoneQ.ret [] (by simp; rfl) (by simp; rfl) ?_)
      exact ⟨by simp [waysAt_full hfull, hb], by simp⟩
  · try simp at hb
    refine WP.skip ?_
    refine WP.seq ?_
    refine WP.regN prg (by kernel_rfl) ?_ -- region 8
    have hlt : vs.length < r.cells.length := by omega
    obtain ⟨c0, c1⟩ := hp.at_ hlt
    refine WN.op prg (by simp) (by simp; rfl) (by simp) ?_
    refine WN.op prg (by simp) (by simp; rfl) (by simp) ?_
    refine WN.op prg (by simp) (by simp; rfl) (by first | (simp; done) | (simp; omega)) ?_
    refine WN.op prg (by simp) (by simp; rfl) (by simp) ?_
    refine WN.op prg (by simp) (by simp; rfl) (by first | (simp; done) | (simp; omega)) ?_
    refine WN.op prg (by simp) (by simp; rfl) (by first | (simp; done) | (simp; omega)) ?_
    refine WN.op prg (by simp) (by simp; rfl) (by first | (simp; done) | (simp; omega)) ?_
    refine WN.op prg (by simp) (by simp; rfl) (by first | (simp; done) | (simp; omega)) ?_
    refine WN.call prg [] [] (by simp) rfl (by simp; rfl) (by simp) (CallsA.at (by simp) (by simp) (c_specMaskValues (ms[(r.cells[vs.length]?.getD 0).toNat]?.getD 0))) ?_
    rintro _ _ ⟨rfl, rfl⟩
    refine ⟨_, by simp; rfl, ?_⟩
    refine WN.op prg (by simp) (by simp; rfl) (by simp) ?_
    refine WN.keep [1, 2, 3, 4, 10] ?_
    refine WP.seq ?_
    refine WP.regN prg (by kernel_rfl) ?_ -- region 9
    refine WN.op prg (by simp) (by simp; rfl) (by simp) ?_
    refine WN.keep [1, 2, 3, 4, 10, 11] ?_
    refine WP.block ?_
    refine WP.loopU ((maskVals (ms[(r.cells[vs.length]?.getD 0).toNat]?.getD 0)).length) (fun k => [(11, .v (.c (.int .i64 (k))))]) (fun k => [(8000, .arr 0 true (.ints .i64 (((maskVals (ms[(r.cells[vs.length]?.getD 0).toNat]?.getD 0)).take k).foldl (fun f v => waysAt r ms (vs ++ [v]) f) found)))]) (fun k => True) (fun k => by simp [putAll]; rfl) (fun k => by simp; rfl) (by simp) (by simp) (by simp) ?_
    intro k hk _
    have hmv : ∀ v ∈ maskVals (ms[(r.cells[vs.length]?.getD 0).toNat]?.getD 0), 0 ≤ v ∧ v ≤ 4 := fun v h => by have := maskVals_get h; omega
    refine WP.seq ?_
    refine WP.seq ?_
    refine WP.regN prg (by kernel_rfl) ?_ -- region 10
    refine WN.op prg (by simp) (by simp; rfl) (by simp) ?_
    refine WN.op prg (by simp) (by simp; rfl) (by simp) ?_
    refine WN.op prg (by simp) (by simp; rfl) (by simp) ?_
    refine WN.op prg (by simp) (by simp; rfl) (by simp) ?_
    refine WN.keep [1, 2, 3, 4, 10, 11, 52] ?_
    refine WP.cond (by first | rfl | (simp; rfl)) (fun hb => ?_) (fun hb => ?_)
    · try simp at hb
      refine WP.skip ?_
      refine WP.seq ?_
      refine WP.block ?_
      refine WP.reg prg (by kernel_rfl) ?_ -- region 12 DRAWS
      refine WS.d (by simp) (by simp; rfl) (by first | (simp; done) | (simp; omega)) (by kernel_rfl) ?_
      refine WS.d (by simp) (by simp; rfl) (by simp) (by kernel_rfl) ?_
      refine WS.d (by simp) (by simp; rfl) (by simp) (by kernel_rfl) ?_
      refine WS.d (by simp) (by simp; rfl) (by simp) (by kernel_rfl) ?_
      refine WS.d (by simp) (by simp; rfl) (by first | (simp; done) | (simp; omega)) (by kernel_rfl) ?_
      refine WS.d (by simp) (by simp; rfl) (by simp) (by kernel_rfl) ?_
      refine WS.d (by simp) (by simp; rfl) (by simp) (by kernel_rfl) ?_
      refine WS.d (by simp) (by simp; rfl) (by first | (simp; done) | (simp; omega)) (by kernel_rfl) ?_
      refine WS.d (by simp) (by simp; rfl) (by first | (simp; done) | (simp; omega)) (by kernel_rfl) ?_
      refine WS.d (by simp) (by simp; rfl) (by simp) (by kernel_rfl) ?_
      refine WS.d (by simp) (by simp; rfl) (by first | (simp; done) | (simp; omega)) (by kernel_rfl) ?_
      refine WS.d (by simp) (by simp; rfl) (by simp) (by kernel_rfl) ?_
      have hkl := hb
      have hF := waysFold_ok hp hlt hv hf ((maskVals (ms[(r.cells[vs.length]?.getD 0).toNat]?.getD 0)).take k) (fun v h => hmv v (List.mem_of_mem_take h))
      refine WS.callD [8000] [456] (by simp) rfl (by simp; rfl) (by simp) (CallsA.at (by simp) (by simp) (ih (vs ++ [(maskVals (ms[(r.cells[vs.length]?.getD 0).toNat]?.getD 0))[k]?.getD 0]) _ ⟨by simp; omega, fun x hx => by rcases List.mem_append.1 hx with hx | hx; exact hv.2 x hx; simp at hx; subst hx; exact hmv _ (by rw [List.getElem?_eq_getElem hkl]; exact List.getElem_mem hkl)⟩ (by simp) (by simp; omega) hF)) (by kernel_rfl) ⟨_, _, rfl, rfl⟩ ?_
      rintro _ _ ⟨rfl, rfl⟩
      refine ⟨_, by simp; rfl, ?_⟩
      refine WS.keep [1, 2, 3, 4, 10, 11] ?_
      refine WP.regN prg (by kernel_rfl) ?_ -- region 11
      refine WN.tidy [1, 2, 3, 4, 10, 11] [8000, 32] (by simp; rfl) ?_
      refine WN.op prg (by simp) (by simp; rfl) (by simp) ?_
      refine WN.op prg (by simp) (by simp; rfl) (by simp) ?_
      refine WN.op prg (by simp) (by simp; rfl) (by simp) ?_
      refine WN.keep [1, 2, 3, 4, 10, 11] ?_
      have hx : (maskVals (ms[(r.cells[vs.length]?.getD 0).toNat]?.getD 0))[k]? = some ((maskVals (ms[(r.cells[vs.length]?.getD 0).toNat]?.getD 0))[k]?.getD 0) := by rw [List.getElem?_eq_getElem hkl]; rfl
      have hlen : (maskVals (ms[(r.cells[vs.length]?.getD 0).toNat]?.getD 0)).length ≤ 4 := maskVals_len _
      exact ⟨by omega, trivial, by simp [foldl_take _ _ hx, wrap_id (n := (k : Int) + 1) (by omega) (by omega)]⟩
    · try simp at hb
      refine WP.exit ?_
      have hkk : k = (maskVals (ms[(r.cells[vs.length]?.getD 0).toNat]?.getD 0)).length := by omega
      refine DoneQ.nrm [] (by simp; rfl) (by simp; rfl) ⟨by simp [waysAt_step hlt, hkk, getI], by simp⟩
theorem c_l4Ways (r : Rule) (ms : List Int) (hp : WayPre r ms) : ∀ (d : Nat) (vs found : List Int), vs.length + d = r.cells.length → VsOk vs → FOk r.cells.length found →
    CallsA Try.prog 180 [r.v false, .c (.dsl false (.ints .i64 (ms))), .c (.dsl false (.ints .i64 (vs))), .c (.osl 8000 0 0 r.cells.length)] [(8000, .arr 0 true (.ints .i64 found))] fun x ho => ho = [(8000, .arr 0 true (.ints .i64 (waysAt r ms vs found)))] ∧ x = .tup []
  | 0, vs, found, hd, hv, hf => w_l4Ways r ms vs found hp hv (by omega) hf fun vs' f' _ h1 h2 => absurd h1 (by omega)
  | d + 1, vs, found, hd, hv, hf => w_l4Ways r ms vs found hp hv (by omega) hf fun vs' f' hv' h1 h2 hf' => c_l4Ways r ms hp d vs' f' (by omega) hv' hf'
end Go.Proofs.Ytaicenafkjbnoaa

