/- Contracts: data of the exact statements; the next hint, exactly. -/
import Derived.Test.YtaicenafkjbnoaaC19
import Derived.Test.YtaicenafkjbnoaaAmZd
set_option linter.unusedVariables false
set_option linter.unusedSimpArgs false
namespace Go.Proofs.Ytaicenafkjbnoaa
open Go Go.AM
set_option maxRecDepth 100000

theorem c_szIntS (l : List Int) (left : Int) (hl : l.length ≤ 9223372036854775807) (h0 : -1 ≤ left) (h1 : left ≤ 1048576) : CallsA Try.prog 79 [.c (.dsl false (.ints .i64 (l))), .c (.int .i64 (left))] [] fun r ho => ho = [] ∧ r = .v (.c (.int .i64 (if left - l.length < 0 then -1 else left - l.length))) := by
  have hw : IntKind.i64.wrap (left - l.length) = left - l.length := wrap_id (by omega) (by omega)
  refine CallsA.of (tv := tyOf Try.prog) (fn := Try.f79) prg.tv Try.func79 rfl rfl (by simp) ?_
  refine WP.seq ?_
  refine WP.regN prg (by kernel_rfl) ?_ -- region 0
  refine WN.op prg (by simp) (by simp; rfl) (by simp) ?_
  refine WN.keep [0, 1] ?_
  refine WP.seq ?_
  refine WP.regN prg (by kernel_rfl) ?_ -- region 1
  refine WN.op prg (by simp) (by simp; rfl) (by simp) ?_
  refine WN.op prg (by simp) (by simp; rfl) (by simp) ?_
  refine WN.op prg (by simp) (by simp; rfl) (by simp) ?_
  refine WN.op prg (by simp) (by simp; rfl) (by simp) ?_
  refine WN.op prg (by simp) (by simp; rfl) (by simp) ?_
  refine WN.keep [1] ?_
  refine WP.seq ?_
  refine WP.seq ?_
  refine WP.regN prg (by kernel_rfl) ?_ -- region 2
  refine WN.op prg (by simp) (by simp; rfl) (by simp) ?_
  refine WN.op prg (by simp) (by simp; rfl) (by simp) ?_
  refine WN.keep [1, 10] ?_
  refine WP.cond (by first | rfl | (simp; rfl)) (fun hb => ?_) (fun hb => ?_)
  · try simp at hb
    refine WP.seq ?_
    refine WP.regN prg (by kernel_rfl) ?_ -- region 3
    refine WN.op prg (by simp) (by simp; rfl) (by simp) ?_
    refine WN.keep [4] ?_
    refine WP.ret (DoneQ.ret [] (by simp; rfl) (by simp; rfl) ?_)
    rw [hw] at hb
    exact ⟨rfl, by simp [hb]⟩
  · try simp at hb
    refine WP.skip ?_
    refine WP.seq ?_
    refine WP.regN prg (by kernel_rfl) ?_ -- region 4
    refine WN.op prg (by simp) (by simp; rfl) (by simp) ?_
    refine WN.op prg (by simp) (by simp; rfl) (by simp) ?_
    refine WN.keep [4] ?_
    refine WP.ret (DoneQ.ret [] (by simp; rfl) (by simp; rfl) ?_)
    rw [hw] at hb
    exact ⟨rfl, by simp [hw]; omega⟩
theorem c_szRule (r : Rule) (left : Int) (hl : r.cells.length ≤ 9223372036854775807) (h0 : -1 ≤ left) (h1 : left ≤ 1048576) : CallsA Try.prog 123 [r.v false, .c (.int .i64 (left))] [] fun x ho => ho = [] ∧ x = .v (.c (.int .i64 (if left - r.cells.length < 0 then -1 else left - r.cells.length))) := by
  unfold Rule.v
  refine CallsA.of (tv := tyOf Try.prog) (fn := Try.f123) prg.tv Try.func123 rfl rfl (by simp) ?_
  refine WP.seq ?_
  refine WP.regN prg (by kernel_rfl) ?_ -- region 0
  refine WN.op prg (by simp) (by simp; rfl) (by simp) ?_
  refine WN.op prg (by simp) (by simp; rfl) (by simp) ?_
  refine WN.keep [1, 2] ?_
  refine WP.seq ?_
  refine WP.regN prg (by kernel_rfl) ?_ -- region 1
  refine WN.op prg (by simp) (by simp; rfl) (by simp) ?_
  refine WN.op prg (by simp) (by simp; rfl) (by first | (simp; done) | (simp; omega)) ?_
  refine WN.op prg (by simp) (by simp; rfl) (by simp) ?_
  refine WN.call prg [] [] (by simp) rfl (by simp; rfl) (by simp) (CallsA.at (by simp) (by simp) (c_szIntS r.cells left hl h0 h1)) ?_
  rintro _ _ ⟨rfl, rfl⟩
  refine ⟨_, by simp; rfl, ?_⟩
  refine WN.op prg (by simp) (by simp; rfl) (by simp) ?_
  refine WN.keep [1] ?_
  refine WP.seq ?_
  refine WP.seq ?_
  refine WP.regN prg (by kernel_rfl) ?_ -- region 2
  refine WN.op prg (by simp) (by simp; rfl) (by simp) ?_
  refine WN.op prg (by simp) (by simp; rfl) (by simp) ?_
  refine WN.keep [1, 10] ?_
  refine WP.cond (by first | rfl | (simp; rfl)) (fun hb => ?_) (fun hb => ?_)
  · try simp at hb
    refine WP.seq ?_
    refine WP.regN prg (by kernel_rfl) ?_ -- region 3
    refine WN.op prg (by simp) (by simp; rfl) (by simp) ?_
    refine WN.keep [4] ?_
    refine WP.ret (DoneQ.ret [] (by simp; rfl) (by simp; rfl) ?_)
    have : left - (r.cells.length : Int) < 0 := by split at hb <;> omega
    exact ⟨rfl, by simp [this]⟩
  · try simp at hb
    refine WP.skip ?_
    refine WP.seq ?_
    refine WP.regN prg (by kernel_rfl) ?_ -- region 4
    refine WN.op prg (by simp) (by simp; rfl) (by simp) ?_
    refine WN.op prg (by simp) (by simp; rfl) (by simp) ?_
    refine WN.keep [4] ?_
    refine WP.ret (DoneQ.ret [] (by simp; rfl) (by simp; rfl) ?_)
    exact ⟨rfl, by simp⟩
def smallR (rs : List Rule) : Prop := rs.length ≤ 1048576 ∧ ∀ r ∈ rs, r.cells.length ≤ 1048576
theorem c_szRuleS (rs : List Rule) (left : Int) (hl : rs.length ≤ 9223372036854775807) (hc : ∀ r ∈ rs, r.cells.length ≤ 9223372036854775807) (h0 : -1 ≤ left) (h1 : left ≤ 1048576) :
    CallsA Try.prog 80 [.c (.dsl false (.recs 3 (rs.map Rule.d))), .c (.int .i64 (left))] [] fun x ho => ∃ s : Int, ho = [] ∧ x = .v (.c (.int .i64 (s))) ∧ -1 ≤ s ∧ s ≤ 1048576 ∧ (0 ≤ s → smallR rs) := by
  have hw : IntKind.i64.wrap (left - rs.length) = left - rs.length := wrap_id (by omega) (by omega)
  refine CallsA.of (tv := tyOf Try.prog) (fn := Try.f80) prg.tv Try.func80 rfl rfl (by simp) ?_
  refine WP.seq ?_
  refine WP.regN prg (by kernel_rfl) ?_ -- region 0
  refine WN.op prg (by simp) (by simp; rfl) (by simp) ?_
  refine WN.keep [0, 1] ?_
  refine WP.seq ?_
  refine WP.regN prg (by kernel_rfl) ?_ -- region 1
  refine WN.op prg (by simp) (by simp; rfl) (by simp) ?_
  refine WN.op prg (by simp) (by simp; rfl) (by simp) ?_
  refine WN.op prg (by simp) (by simp; rfl) (by simp) ?_
  refine WN.op prg (by simp) (by simp; rfl) (by simp) ?_
  refine WN.op prg (by simp) (by simp; rfl) (by simp) ?_
  refine WN.keep [0, 1] ?_
  refine WP.seq ?_
  refine WP.seq ?_
  refine WP.regN prg (by kernel_rfl) ?_ -- region 2
  refine WN.op prg (by simp) (by simp; rfl) (by simp) ?_
  refine WN.op prg (by simp) (by simp; rfl) (by simp) ?_
  refine WN.keep [0, 1, 11] ?_
  refine WP.cond (by first | rfl | (simp; rfl)) (fun hb => ?_) (fun hb => ?_)
  · try simp at hb
    refine WP.seq ?_
    refine WP.regN prg (by kernel_rfl) ?_ -- region 3
    refine WN.op prg (by simp) (by simp; rfl) (by simp) ?_
    refine WN.keep [4] ?_
    refine WP.ret (DoneQ.ret [] (by simp; rfl) (by simp; rfl) ?_)
    exact ⟨-1, rfl, by simp, by omega, by omega, fun h => by omega⟩
  · try simp at hb
    refine WP.skip ?_
    refine WP.seq ?_
    refine WP.seq ?_
    refine WP.regN prg (by kernel_rfl) ?_ -- region 4
    refine WN.op prg (by simp) (by simp; rfl) (by simp) ?_
    refine WN.keep [0, 1, 5] ?_
    refine WP.block ?_
    rw [hw] at hb
    refine WP.loopX (α := Int) (rs.length) (fun k a => [(1, .v (.c (.int .i64 (a)))), (5, .v (.c (.int .i64 (k))))]) (fun k a => []) (fun k a => (0 ≤ a ∧ a ≤ 1048576) ∧ (∀ j r, j < k → rs[j]? = some r → r.cells.length ≤ 1048576)) (left - rs.length) (fun k a => by simp [putAll]; rfl) (fun k a => by simp; rfl) (by exact ⟨⟨by omega, by omega⟩, fun j r h => by omega⟩) (by simp [hw]) (by simp) ?_
    rintro k a hk ⟨ha, hsm⟩
    refine WP.seq ?_
    refine WP.seq ?_
    refine WP.regN prg (by kernel_rfl) ?_ -- region 5
    refine WN.op prg (by simp) (by simp; rfl) (by simp) ?_
    refine WN.op prg (by simp) (by simp; rfl) (by simp) ?_
    refine WN.op prg (by simp) (by simp; rfl) (by simp) ?_
    refine WN.op prg (by simp) (by simp; rfl) (by simp) ?_
    refine WN.keep [0, 1, 5, 15] ?_
    refine WP.cond (by first | rfl | (simp; rfl)) (fun hb => ?_) (fun hb => ?_)
    · try simp at hb
      refine WP.skip ?_
      refine WP.seq ?_
      refine WP.block ?_
      refine WP.seq ?_
      refine WP.regN prg (by kernel_rfl) ?_ -- region 7
      obtain ⟨r, hr⟩ : ∃ r, rs[k]? = some r := ⟨_, List.getElem?_eq_getElem (by omega)⟩
      refine WN.op prg (by simp) (by simp; rfl) (by simp) ?_
      refine WN.op prg (by simp) (by simp; rfl) (by simp) ?_
      refine WN.op prg (by simp) (by simp; rfl) (by first | (simp; done) | (simp; omega)) ?_
      refine WN.op prg (by simp) (by simp [hr, Rule.d]; rfl) (by simp) ?_
      refine WN.op prg (by simp) (by simp; rfl) (by simp) ?_
      refine WN.call prg [] [] (by simp) rfl (by simp; rfl) (by simp) (CallsA.at (by simp) (by simp) (c_szRule r a (hc r (List.mem_of_getElem? hr)) (by omega) (by omega))) ?_
      rintro _ _ ⟨rfl, rfl⟩
      refine ⟨_, by simp; rfl, ?_⟩
      refine WN.op prg (by simp) (by simp; rfl) (by simp) ?_
      refine WN.keep [0, 1, 5] ?_
      refine WP.seq ?_
      refine WP.regN prg (by kernel_rfl) ?_ -- region 8
      refine WN.op prg (by simp) (by simp; rfl) (by simp) ?_
      refine WN.op prg (by simp) (by simp; rfl) (by simp) ?_
      refine WN.keep [0, 1, 5, 25] ?_
      refine WP.cond (by first | rfl | (simp; rfl)) (fun hb => ?_) (fun hb => ?_)
      · try simp at hb
        refine WP.seq ?_
        refine WP.regN prg (by kernel_rfl) ?_ -- region 9
        refine WN.op prg (by simp) (by simp; rfl) (by simp) ?_
        refine WN.keep [4] ?_
        refine WP.ret (DoneQ.ret [] (by simp; rfl) (by simp; rfl) ?_)
        exact ⟨-1, rfl, by simp, by omega, by omega, fun h => by omega⟩
      · try simp at hb
        refine WP.skip ?_
        refine WP.regN prg (by kernel_rfl) ?_ -- region 6
        refine WN.op prg (by simp) (by simp; rfl) (by simp) ?_
        refine WN.op prg (by simp) (by simp; rfl) (by simp) ?_
        refine WN.op prg (by simp) (by simp; rfl) (by simp) ?_
        refine WN.keep [0, 1, 5] ?_
        have hcl : r.cells.length ≤ 1048576 := by split at hb <;> omega
        refine ⟨by omega, if a - (r.cells.length : Int) < 0 then -1 else a - r.cells.length, ⟨⟨by omega, by split <;> omega⟩, fun j r' hj hr' => ?_⟩, by simp [wrap_id (n := (k : Int) + 1) (by omega) (by omega)]⟩
        by_cases e : j = k
        · subst e
          rw [hr] at hr'
          injection hr' with hr'
          subst hr'
          exact hcl
        · exact hsm j r' (by omega) hr'
    · try simp at hb
      refine WP.exit ?_
      refine WP.seq ?_
      refine WP.regN prg (by kernel_rfl) ?_ -- region 10
      refine WN.op prg (by simp) (by simp; rfl) (by simp) ?_
      refine WN.op prg (by simp) (by simp; rfl) (by simp) ?_
      refine WN.keep [4] ?_
      refine WP.ret (DoneQ.ret [] (by simp; rfl) (by simp; rfl) ?_)
      refine ⟨a, rfl, by simp, by omega, by omega, fun _ => ⟨by omega, fun r hr => ?_⟩⟩
      obtain ⟨j, hj⟩ := List.getElem?_of_mem hr
      exact hsm j r (by have := (List.getElem?_eq_some_iff.1 hj).1; omega) hj
/-- As long as the machine's numbers go. -/
structure Puzzle.Big (p : Puzzle) : Prop where
  given : p.given.length ≤ 9223372036854775807
  rules : p.rules.length ≤ 9223372036854775807
  cells : ∀ r ∈ p.rules, r.cells.length ≤ 9223372036854775807
def smallP (p : Puzzle) : Prop := p.given.length ≤ 1048576 ∧ smallR p.rules
theorem smallP.fits {p : Puzzle} (h : smallP p) : p.Fits := ⟨by have := h.1; omega, by have := h.2.1; omega, fun r hr => by have := h.2.2 r hr; omega⟩
theorem c_szPuzzle (p : Puzzle) (left : Int) (hp : p.Big) (h0 : -1 ≤ left) (h1 : left ≤ 1048576) : CallsA Try.prog 22 [p.v false, .c (.int .i64 (left))] [] fun x ho => ∃ s : Int, ho = [] ∧ x = .v (.c (.int .i64 (s))) ∧ -1 ≤ s ∧ s ≤ 1048576 ∧ (0 ≤ s → smallP p) := by
  unfold Puzzle.v rulesD
  refine CallsA.of (tv := tyOf Try.prog) (fn := Try.f22) prg.tv Try.func22 rfl rfl (by simp) ?_
  refine WP.seq ?_
  refine WP.regN prg (by kernel_rfl) ?_ -- region 0
  refine WN.op prg (by simp) (by simp; rfl) (by simp) ?_
  refine WN.op prg (by simp) (by simp; rfl) (by simp) ?_
  refine WN.keep [1, 2] ?_
  refine WP.seq ?_
  refine WP.regN prg (by kernel_rfl) ?_ -- region 1
  refine WN.op prg (by simp) (by simp; rfl) (by simp) ?_
  refine WN.op prg (by simp) (by simp; rfl) (by first | (simp; done) | (simp; omega)) ?_
  refine WN.op prg (by simp) (by simp; rfl) (by simp) ?_
  refine WN.call prg [] [] (by simp) rfl (by simp; rfl) (by simp) (CallsA.at (by simp) (by simp) (c_szIntS p.given left hp.given h0 h1)) ?_
  rintro _ _ ⟨rfl, rfl⟩
  refine ⟨_, by simp; rfl, ?_⟩
  refine WN.op prg (by simp) (by simp; rfl) (by simp) ?_
  refine WN.keep [1, 2] ?_
  refine WP.seq ?_
  refine WP.seq ?_
  refine WP.regN prg (by kernel_rfl) ?_ -- region 2
  refine WN.op prg (by simp) (by simp; rfl) (by simp) ?_
  refine WN.op prg (by simp) (by simp; rfl) (by simp) ?_
  refine WN.keep [1, 2, 10] ?_
  refine WP.cond (by first | rfl | (simp; rfl)) (fun hb => ?_) (fun hb => ?_)
  · try simp at hb
    refine WP.seq ?_
    refine WP.regN prg (by kernel_rfl) ?_ -- region 3
    refine WN.op prg (by simp) (by simp; rfl) (by simp) ?_
    refine WN.keep [4] ?_
    refine WP.ret (DoneQ.ret [] (by simp; rfl) (by simp; rfl) ?_)
    exact ⟨-1, rfl, by simp, by omega, by omega, fun h => by omega⟩
  · try simp at hb
    refine WP.skip ?_
    refine WP.seq ?_
    refine WP.regN prg (by kernel_rfl) ?_ -- region 4
    refine WN.op prg (by simp) (by simp; rfl) (by simp) ?_
    refine WN.op prg (by simp) (by simp; rfl) (by first | (simp; done) | (simp; omega)) ?_
    refine WN.op prg (by simp) (by simp; rfl) (by simp) ?_
    have hlt : 0 ≤ left - (p.given.length : Int) := by split at hb <;> omega
    refine WN.call prg [] [] (by simp) rfl (by simp; rfl) (by simp) (CallsA.at (by simp) (by simp) (c_szRuleS p.rules (if left - (p.given.length : Int) < 0 then -1 else left - p.given.length) hp.rules hp.cells (by split <;> omega) (by split <;> omega))) ?_
    rintro _ _ ⟨s, rfl, rfl, hs0, hs1, hss⟩
    refine ⟨_, by simp; rfl, ?_⟩
    refine WN.op prg (by simp) (by simp; rfl) (by simp) ?_
    refine WN.keep [1] ?_
    refine WP.seq ?_
    refine WP.seq ?_
    refine WP.regN prg (by kernel_rfl) ?_ -- region 5
    refine WN.op prg (by simp) (by simp; rfl) (by simp) ?_
    refine WN.op prg (by simp) (by simp; rfl) (by simp) ?_
    refine WN.keep [1, 16] ?_
    refine WP.cond (by first | rfl | (simp; rfl)) (fun hb => ?_) (fun hb => ?_)
    · try simp at hb
      refine WP.seq ?_
      refine WP.regN prg (by kernel_rfl) ?_ -- region 6
      refine WN.op prg (by simp) (by simp; rfl) (by simp) ?_
      refine WN.keep [4] ?_
      refine WP.ret (DoneQ.ret [] (by simp; rfl) (by simp; rfl) ?_)
      exact ⟨-1, rfl, by simp, by omega, by omega, fun h => by omega⟩
    · try simp at hb
      refine WP.skip ?_
      refine WP.seq ?_
      refine WP.regN prg (by kernel_rfl) ?_ -- region 7
      refine WN.op prg (by simp) (by simp; rfl) (by simp) ?_
      refine WN.op prg (by simp) (by simp; rfl) (by simp) ?_
      refine WN.keep [4] ?_
      refine WP.ret (DoneQ.ret [] (by simp; rfl) (by simp; rfl) ?_)
      exact ⟨s, rfl, by simp, hs0, hs1, fun h => ⟨by omega, hss h⟩⟩
theorem c_toIntS (l : List Int) (hl : l.length ≤ 1048576) : CallsA Try.prog 25 [.c (.dsl false (.ints .i64 (l)))] [] fun r ho => ho = [] ∧ r = .v (.c (.dsl true (.ints .i64 (l)))) := by
  refine CallsA.of (tv := tyOf Try.prog) (fn := Try.f25) prg.tv Try.func25 rfl rfl (by simp) ?_
  refine WP.seq ?_
  refine WP.regN prg (by kernel_rfl) ?_ -- region 0
  refine WN.op prg (by simp) (by simp; rfl) (by simp) ?_
  refine WN.keep [0] ?_
  refine WP.seq ?_
  refine WP.regN prg (by kernel_rfl) ?_ -- region 1
  refine WN.op prg (by simp) (by simp; rfl) (by simp) ?_
  refine WN.op prg (by simp) (by simp; rfl) (by simp) ?_
  refine WN.op prg (by simp) (by simp; rfl) (by first | (simp; done) | (simp; omega)) ?_
  refine WN.op prg (by simp) (by simp; rfl) (by simp) ?_
  refine WN.keep [0, 3] ?_
  refine WP.seq ?_
  refine WP.seq ?_
  refine WP.regN prg (by kernel_rfl) ?_ -- region 2
  refine WN.op prg (by simp) (by simp; rfl) (by simp) ?_
  refine WN.keep [0, 3, 4] ?_
  refine WP.block ?_
  refine WP.loopU (l.length) (fun k => [(4, .v (.c (.int .i64 (k))))]) (fun k => [(56, .arr 0 true (.ints .i64 (fillK l (List.replicate l.length 0) k)))]) (fun k => True) (fun k => by simp [putAll]; rfl) (fun k => by simp; rfl) (by simp) (by simp) (by simp) ?_
  intro k hk _
  have hfl := fillK_len l (List.replicate l.length 0) k
  simp at hfl
  refine WP.seq ?_
  refine WP.seq ?_
  refine WP.regN prg (by kernel_rfl) ?_ -- region 3
  refine WN.op prg (by simp) (by simp; rfl) (by simp) ?_
  refine WN.op prg (by simp) (by simp; rfl) (by simp) ?_
  refine WN.op prg (by simp) (by simp; rfl) (by simp) ?_
  refine WN.op prg (by simp) (by simp; rfl) (by simp) ?_
  refine WN.keep [0, 3, 4, 11] ?_
  refine WP.cond (by first | rfl | (simp; rfl)) (fun hb => ?_) (fun hb => ?_)
  · try simp at hb
    refine WP.skip ?_
    refine WP.seq ?_
    refine WP.block ?_
    refine WP.regN prg (by kernel_rfl) ?_ -- region 5
    refine WN.op prg (by simp) (by simp; rfl) (by simp) ?_
    refine WN.op prg (by simp) (by simp; rfl) (by simp) ?_
    refine WN.op prg (by simp) (by simp; rfl) (by simp) ?_
    refine WN.op prg (by simp) (by simp; rfl) (by simp) ?_
    refine WN.op prg (by simp) (by simp; rfl) (by first | (simp; done) | (simp; omega)) ?_
    refine WN.op prg (by simp) (by simp; rfl) (by first | (simp; done) | (simp; omega)) ?_
    refine WN.op prg (by simp) (by simp; rfl) (by first | (simp; done) | (simp; omega)) ?_
    refine WN.op prg (by simp) (by simp; rfl) (by first | (simp; done) | (simp; omega)) ?_
    refine WN.keep [0, 3, 4] ?_
    refine WP.regN prg (by kernel_rfl) ?_ -- region 4
    refine WN.op prg (by simp) (by simp; rfl) (by simp) ?_
    refine WN.op prg (by simp) (by simp; rfl) (by simp) ?_
    refine WN.op prg (by simp) (by simp; rfl) (by simp) ?_
    refine WN.keep [0, 3, 4] ?_
    exact ⟨by omega, trivial, by simp [fillK, wrap_id (n := (k : Int) + 1) (by omega) (by omega)]⟩
  · try simp at hb
    refine WP.exit ?_
    refine WP.seq ?_
    refine WP.regN prg (by kernel_rfl) ?_ -- region 6
    refine WN.op prg (by simp) (by simp; rfl) (by simp) ?_
    refine WN.op prg (by simp) (by simp; rfl) (by simp) ?_
    refine WN.keep [2] ?_
    refine WP.ret (DoneQ.ret [] (by simp; rfl) (by simp; rfl) ?_)
    have hkk : k = l.length := by omega
    have hfa := fillK_all (src := l) (out := List.replicate l.length 0) (by simp)
    exact ⟨rfl, by simp [hkk, hfa]⟩
theorem c_toRule (r : Rule) (hl : r.cells.length ≤ 1048576) : CallsA Try.prog 130 [r.v false] [] fun x ho => ho = [] ∧ x = .v (r.v true) := by
  unfold Rule.v
  refine CallsA.of (tv := tyOf Try.prog) (fn := Try.f130) prg.tv Try.func130 rfl rfl (by simp) ?_
  refine WP.seq ?_
  refine WP.regN prg (by kernel_rfl) ?_ -- region 0
  refine WN.op prg (by simp) (by simp; rfl) (by simp) ?_
  refine WN.op prg (by simp) (by simp; rfl) (by simp) ?_
  refine WN.keep [1, 2] ?_
  refine WP.seq ?_
  refine WP.regN prg (by kernel_rfl) ?_ -- region 1
  refine WN.op prg (by simp) (by simp; rfl) (by simp) ?_
  refine WN.keep [1, 2, 3] ?_
  refine WP.seq ?_
  refine WP.regN prg (by kernel_rfl) ?_ -- region 2
  refine WN.op prg (by simp) (by simp; rfl) (by simp) ?_
  refine WN.op prg (by simp) (by simp; rfl) (by first | (simp; done) | (simp; omega)) ?_
  refine WN.op prg (by simp) (by simp; rfl) (by simp) ?_
  refine WN.op prg (by simp) (by simp; rfl) (by first | (simp; done) | (simp; omega)) ?_
  refine WN.keep [1, 2, 3] ?_
  refine WP.seq ?_
  refine WP.regN prg (by kernel_rfl) ?_ -- region 3
  refine WN.op prg (by simp) (by simp; rfl) (by simp) ?_
  refine WN.op prg (by simp) (by simp; rfl) (by first | (simp; done) | (simp; omega)) ?_
  refine WN.call prg [] [] (by simp) rfl (by simp; rfl) (by simp) (CallsA.at (by simp) (by simp) (c_toIntS r.cells hl)) ?_
  rintro _ _ ⟨rfl, rfl⟩
  refine ⟨_, by simp; rfl, ?_⟩
  refine WN.op prg (by simp) (by simp; rfl) (by simp) ?_
  refine WN.op prg (by simp) (by simp; rfl) (by first | (simp; done) | (simp; omega)) ?_
  refine WN.keep [1, 2, 3] ?_
  refine WP.seq ?_
  refine WP.regN prg (by kernel_rfl) ?_ -- region 4
  refine WN.op prg (by simp) (by simp; rfl) (by simp) ?_
  refine WN.op prg (by simp) (by simp; rfl) (by first | (simp; done) | (simp; omega)) ?_
  refine WN.op prg (by simp) (by simp; rfl) (by simp) ?_
  refine WN.op prg (by simp) (by simp; rfl) (by first | (simp; done) | (simp; omega)) ?_
  refine WN.keep [2, 3] ?_
  refine WP.seq ?_
  refine WP.regN prg (by kernel_rfl) ?_ -- region 5
  refine WN.op prg (by simp) (by simp; rfl) (by first | (simp; done) | (simp; omega)) ?_
  refine WN.op prg (by simp) (by simp; rfl) (by first | (simp; done) | (simp; omega)) ?_
  refine WN.keep [2] ?_
  refine WP.ret (DoneQ.ret [] (by simp; rfl) (by simp; rfl) ?_)
  exact ⟨rfl, by simp⟩
theorem c_eqIntS (a : List Int) (ha : a.length ≤ 1048576) : CallsA Try.prog 29 [.c (.dsl false (.ints .i64 (a))), .c (.dsl false (.ints .i64 (a)))] [] fun r ho => ho = [] ∧ r = .v (.c (.bool (true))) := by
  refine CallsA.of (tv := tyOf Try.prog) (fn := Try.f29) prg.tv Try.func29 rfl rfl (by simp) ?_
  refine WP.seq ?_
  refine WP.regN prg (by kernel_rfl) ?_ -- region 0
  refine WN.op prg (by simp) (by simp; rfl) (by simp) ?_
  refine WN.keep [0, 1] ?_
  refine WP.seq ?_
  refine WP.seq ?_
  refine WP.regN prg (by kernel_rfl) ?_ -- region 1
  refine WN.op prg (by simp) (by simp; rfl) (by simp) ?_
  refine WN.op prg (by simp) (by simp; rfl) (by simp) ?_
  refine WN.op prg (by simp) (by simp; rfl) (by simp) ?_
  refine WN.op prg (by simp) (by simp; rfl) (by simp) ?_
  refine WN.op prg (by simp) (by simp; rfl) (by simp) ?_
  refine WN.keep [0, 1, 10] ?_
  refine WP.cond (by first | rfl | (simp; rfl)) (fun hb => ?_) (fun hb => ?_)
  · exact absurd hb (by simp)
  · try simp at hb
    refine WP.skip ?_
    refine WP.seq ?_
    refine WP.seq ?_
    refine WP.regN prg (by kernel_rfl) ?_ -- region 3
    refine WN.op prg (by simp) (by simp; rfl) (by simp) ?_
    refine WN.keep [0, 1, 5] ?_
    refine WP.block ?_
    refine WP.loopU (a.length) (fun k => [(5, .v (.c (.int .i64 (k))))]) (fun k => []) (fun k => True) (fun k => by simp [putAll]; rfl) (fun k => by simp; rfl) (by simp) (by simp) (by simp) ?_
    intro k hk _
    refine WP.seq ?_
    refine WP.seq ?_
    refine WP.regN prg (by kernel_rfl) ?_ -- region 4
    refine WN.op prg (by simp) (by simp; rfl) (by simp) ?_
    refine WN.op prg (by simp) (by simp; rfl) (by simp) ?_
    refine WN.op prg (by simp) (by simp; rfl) (by simp) ?_
    refine WN.op prg (by simp) (by simp; rfl) (by simp) ?_
    refine WN.keep [0, 1, 5, 14] ?_
    refine WP.cond (by first | rfl | (simp; rfl)) (fun hb => ?_) (fun hb => ?_)
    · try simp at hb
      refine WP.skip ?_
      refine WP.seq ?_
      refine WP.block ?_
      refine WP.seq ?_
      refine WP.reg prg (by kernel_rfl) ?_ -- region 6 DRAWS
      refine WS.d (by simp) (by simp; rfl) (by simp) (by kernel_rfl) ?_
      refine WS.d (by simp) (by simp; rfl) (by simp) (by kernel_rfl) ?_
      refine WS.d (by simp) (by simp; rfl) (by first | (simp; done) | (simp; omega)) (by kernel_rfl) ?_
      refine WS.d (by simp) (by simp; rfl) (by first | (simp; done) | (simp; omega)) (by kernel_rfl) ?_
      refine WS.d (by simp) (by simp; rfl) (by simp) (by kernel_rfl) ?_
      refine WS.d (by simp) (by simp; rfl) (by simp) (by kernel_rfl) ?_
      refine WS.d (by simp) (by simp; rfl) (by first | (simp; done) | (simp; omega)) (by kernel_rfl) ?_
      refine WS.d (by simp) (by simp; rfl) (by first | (simp; done) | (simp; omega)) (by kernel_rfl) ?_
      refine WS.d (by simp) (by simp; rfl) (by simp) (by kernel_rfl) ?_
      refine WS.keep [0, 1, 5, 25] ?_
      refine WP.cond (by first | rfl | (simp; rfl)) (fun hb => ?_) (fun hb => ?_)
      · exact absurd hb (by simp)
      · try simp at hb
        refine WP.skip ?_
        refine WP.regN prg (by kernel_rfl) ?_ -- region 5
        refine WN.op prg (by simp) (by simp; rfl) (by simp) ?_
        refine WN.op prg (by simp) (by simp; rfl) (by simp) ?_
        refine WN.op prg (by simp) (by simp; rfl) (by simp) ?_
        refine WN.keep [0, 1, 5] ?_
        exact ⟨by omega, trivial, by simp [wrap_id (n := (k : Int) + 1) (by omega) (by omega)]⟩
    · try simp at hb
      refine WP.exit ?_
      refine WP.seq ?_
      refine WP.regN prg (by kernel_rfl) ?_ -- region 8
      refine WN.op prg (by simp) (by simp; rfl) (by simp) ?_
      refine WN.keep [4] ?_
      refine WP.ret (DoneQ.ret [] (by simp; rfl) (by simp; rfl) ?_)
      exact ⟨rfl, by simp⟩
theorem c_eqHint (a b c : Int) : CallsA Try.prog 27 [.agg [.int .i64 a, .int .i64 b, .int .i64 c], .agg [.int .i64 a, .int .i64 b, .int .i64 c]] [] fun r ho => ho = [] ∧ r = .v (.c (.bool (true))) := by
  refine CallsA.of (tv := tyOf Try.prog) (fn := Try.f27) prg.tv Try.func27 rfl rfl (by simp) ?_
  refine WP.seq ?_
  refine WP.regN prg (by kernel_rfl) ?_ -- region 0
  refine WN.op prg (by simp) (by simp; rfl) (by simp) ?_
  refine WN.op prg (by simp) (by simp; rfl) (by simp) ?_
  refine WN.op prg (by simp) (by simp; rfl) (by simp) ?_
  refine WN.keep [2, 3] ?_
  refine WP.seq ?_
  refine WP.seq ?_
  refine WP.regN prg (by kernel_rfl) ?_ -- region 1
  refine WN.op prg (by simp) (by simp; rfl) (by simp) ?_
  refine WN.op prg (by simp) (by simp; rfl) (by first | (simp; done) | (simp; omega)) ?_
  refine WN.op prg (by simp) (by simp; rfl) (by simp) ?_
  refine WN.op prg (by simp) (by simp; rfl) (by first | (simp; done) | (simp; omega)) ?_
  refine WN.op prg (by simp) (by simp; rfl) (by simp) ?_
  refine WN.keep [2, 3, 9] ?_
  refine WP.cond (by first | rfl | (simp; rfl)) (fun hb => ?_) (fun hb => ?_)
  · exact absurd hb (by simp)
  · try simp at hb
    refine WP.skip ?_
    refine WP.seq ?_
    refine WP.seq ?_
    refine WP.regN prg (by kernel_rfl) ?_ -- region 3
    refine WN.op prg (by simp) (by simp; rfl) (by simp) ?_
    refine WN.op prg (by simp) (by simp; rfl) (by first | (simp; done) | (simp; omega)) ?_
    refine WN.op prg (by simp) (by simp; rfl) (by simp) ?_
    refine WN.op prg (by simp) (by simp; rfl) (by first | (simp; done) | (simp; omega)) ?_
    refine WN.op prg (by simp) (by simp; rfl) (by simp) ?_
    refine WN.keep [2, 3, 14] ?_
    refine WP.cond (by first | rfl | (simp; rfl)) (fun hb => ?_) (fun hb => ?_)
    · exact absurd hb (by simp)
    · try simp at hb
      refine WP.skip ?_
      refine WP.seq ?_
      refine WP.seq ?_
      refine WP.regN prg (by kernel_rfl) ?_ -- region 5
      refine WN.op prg (by simp) (by simp; rfl) (by simp) ?_
      refine WN.op prg (by simp) (by simp; rfl) (by first | (simp; done) | (simp; omega)) ?_
      refine WN.op prg (by simp) (by simp; rfl) (by simp) ?_
      refine WN.op prg (by simp) (by simp; rfl) (by first | (simp; done) | (simp; omega)) ?_
      refine WN.op prg (by simp) (by simp; rfl) (by simp) ?_
      refine WN.keep [19] ?_
      refine WP.cond (by first | rfl | (simp; rfl)) (fun hb => ?_) (fun hb => ?_)
      · exact absurd hb (by simp)
      · try simp at hb
        refine WP.skip ?_
        refine WP.seq ?_
        refine WP.regN prg (by kernel_rfl) ?_ -- region 7
        refine WN.op prg (by simp) (by simp; rfl) (by simp) ?_
        refine WN.keep [4] ?_
        refine WP.ret (DoneQ.ret [] (by simp; rfl) (by simp; rfl) ?_)
        exact ⟨rfl, by simp⟩
theorem c_eqRule (r : Rule) (hl : r.cells.length ≤ 1048576) : CallsA Try.prog 137 [r.v false, r.v false] [] fun x ho => ho = [] ∧ x = .v (.c (.bool (true))) := by
  unfold Rule.v
  refine CallsA.of (tv := tyOf Try.prog) (fn := Try.f137) prg.tv Try.func137 rfl rfl (by simp) ?_
  refine WP.seq ?_
  refine WP.regN prg (by kernel_rfl) ?_ -- region 0
  refine WN.op prg (by simp) (by simp; rfl) (by simp) ?_
  refine WN.op prg (by simp) (by simp; rfl) (by simp) ?_
  refine WN.op prg (by simp) (by simp; rfl) (by simp) ?_
  refine WN.keep [2, 3] ?_
  refine WP.seq ?_
  refine WP.seq ?_
  refine WP.regN prg (by kernel_rfl) ?_ -- region 1
  refine WN.op prg (by simp) (by simp; rfl) (by simp) ?_
  refine WN.op prg (by simp) (by simp; rfl) (by first | (simp; done) | (simp; omega)) ?_
  refine WN.op prg (by simp) (by simp; rfl) (by simp) ?_
  refine WN.op prg (by simp) (by simp; rfl) (by first | (simp; done) | (simp; omega)) ?_
  refine WN.op prg (by simp) (by simp; rfl) (by simp) ?_
  refine WN.keep [2, 3, 9] ?_
  refine WP.cond (by first | rfl | (simp; rfl)) (fun hb => ?_) (fun hb => ?_)
  · exact absurd hb (by simp)
  · try simp at hb
    refine WP.skip ?_
    refine WP.seq ?_
    refine WP.seq ?_
    refine WP.regN prg (by kernel_rfl) ?_ -- region 3
    refine WN.op prg (by simp) (by simp; rfl) (by simp) ?_
    refine WN.op prg (by simp) (by simp; rfl) (by first | (simp; done) | (simp; omega)) ?_
    refine WN.op prg (by simp) (by simp; rfl) (by simp) ?_
    refine WN.op prg (by simp) (by simp; rfl) (by first | (simp; done) | (simp; omega)) ?_
    refine WN.call prg [] [] (by simp) rfl (by simp; rfl) (by simp) (CallsA.at (by simp) (by simp) (c_eqIntS r.cells hl)) ?_
    rintro _ _ ⟨rfl, rfl⟩
    refine ⟨_, by simp; rfl, ?_⟩
    refine WN.op prg (by simp) (by simp; rfl) (by simp) ?_
    refine WN.keep [2, 3, 15] ?_
    refine WP.cond (by first | rfl | (simp; rfl)) (fun hb => ?_) (fun hb => ?_)
    · exact absurd hb (by simp)
    · try simp at hb
      refine WP.skip ?_
      refine WP.seq ?_
      refine WP.seq ?_
      refine WP.regN prg (by kernel_rfl) ?_ -- region 5
      refine WN.op prg (by simp) (by simp; rfl) (by simp) ?_
      refine WN.op prg (by simp) (by simp; rfl) (by first | (simp; done) | (simp; omega)) ?_
      refine WN.op prg (by simp) (by simp; rfl) (by simp) ?_
      refine WN.op prg (by simp) (by simp; rfl) (by first | (simp; done) | (simp; omega)) ?_
      refine WN.op prg (by simp) (by simp; rfl) (by simp) ?_
      refine WN.keep [20] ?_
      refine WP.cond (by first | rfl | (simp; rfl)) (fun hb => ?_) (fun hb => ?_)
      · exact absurd hb (by simp)
      · try simp at hb
        refine WP.skip ?_
        refine WP.seq ?_
        refine WP.regN prg (by kernel_rfl) ?_ -- region 7
        refine WN.op prg (by simp) (by simp; rfl) (by simp) ?_
        refine WN.keep [4] ?_
        refine WP.ret (DoneQ.ret [] (by simp; rfl) (by simp; rfl) ?_)
        exact ⟨rfl, by simp⟩
theorem c_eqRuleS (rs : List Rule) (hl : smallR rs) : CallsA Try.prog 94 [.c (.dsl false (.recs 3 (rs.map Rule.d))), .c (.dsl false (.recs 3 (rs.map Rule.d)))] [] fun x ho => ho = [] ∧ x = .v (.c (.bool (true))) := by
  have hl1 := hl.1
  refine CallsA.of (tv := tyOf Try.prog) (fn := Try.f94) prg.tv Try.func94 rfl rfl (by simp) ?_
  refine WP.seq ?_
  refine WP.regN prg (by kernel_rfl) ?_ -- region 0
  refine WN.op prg (by simp) (by simp; rfl) (by simp) ?_
  refine WN.keep [0, 1] ?_
  refine WP.seq ?_
  refine WP.seq ?_
  refine WP.regN prg (by kernel_rfl) ?_ -- region 1
  refine WN.op prg (by simp) (by simp; rfl) (by simp) ?_
  refine WN.op prg (by simp) (by simp; rfl) (by simp) ?_
  refine WN.op prg (by simp) (by simp; rfl) (by simp) ?_
  refine WN.op prg (by simp) (by simp; rfl) (by simp) ?_
  refine WN.op prg (by simp) (by simp; rfl) (by simp) ?_
  refine WN.keep [0, 1, 10] ?_
  refine WP.cond (by first | rfl | (simp; rfl)) (fun hb => ?_) (fun hb => ?_)
  · exact absurd hb (by simp)
  · try simp at hb
    refine WP.skip ?_
    refine WP.seq ?_
    refine WP.seq ?_
    refine WP.regN prg (by kernel_rfl) ?_ -- region 3
    refine WN.op prg (by simp) (by simp; rfl) (by simp) ?_
    refine WN.keep [0, 1, 5] ?_
    refine WP.block ?_
    refine WP.loopU (rs.length) (fun k => [(5, .v (.c (.int .i64 (k))))]) (fun k => []) (fun k => True) (fun k => by simp [putAll]; rfl) (fun k => by simp; rfl) (by simp) (by simp) (by simp) ?_
    intro k hk _
    refine WP.seq ?_
    refine WP.seq ?_
    refine WP.regN prg (by kernel_rfl) ?_ -- region 4
    refine WN.op prg (by simp) (by simp; rfl) (by simp) ?_
    refine WN.op prg (by simp) (by simp; rfl) (by simp) ?_
    refine WN.op prg (by simp) (by simp; rfl) (by simp) ?_
    refine WN.op prg (by simp) (by simp; rfl) (by simp) ?_
    refine WN.keep [0, 1, 5, 14] ?_
    refine WP.cond (by first | rfl | (simp; rfl)) (fun hb => ?_) (fun hb => ?_)
    · try simp at hb
      refine WP.skip ?_
      refine WP.seq ?_
      refine WP.block ?_
      refine WP.seq ?_
      refine WP.reg prg (by kernel_rfl) ?_ -- region 6 DRAWS
      obtain ⟨r, hr⟩ : ∃ r, rs[k]? = some r := ⟨_, List.getElem?_eq_getElem (by omega)⟩
      refine WS.d (by simp) (by simp; rfl) (by simp) (by kernel_rfl) ?_
      refine WS.d (by simp) (by simp; rfl) (by simp) (by kernel_rfl) ?_
      refine WS.d (by simp) (by simp; rfl) (by first | (simp; done) | (simp; omega)) (by kernel_rfl) ?_
      refine WS.d (by simp) (by simp [hr, Rule.d]; rfl) (by simp) (by kernel_rfl) ?_
      refine WS.d (by simp) (by simp; rfl) (by simp) (by kernel_rfl) ?_
      refine WS.d (by simp) (by simp; rfl) (by simp) (by kernel_rfl) ?_
      refine WS.d (by simp) (by simp; rfl) (by first | (simp; done) | (simp; omega)) (by kernel_rfl) ?_
      refine WS.d (by simp) (by simp [hr, Rule.d]; rfl) (by simp) (by kernel_rfl) ?_
      refine WS.callD [] [] (by simp) rfl (by simp; rfl) (by simp) (CallsA.at (by simp) (by simp) (c_eqRule r (hl.2 r (List.mem_of_getElem? hr)))) (by kernel_rfl) ⟨_, _, rfl, rfl⟩ ?_
      rintro _ _ ⟨rfl, rfl⟩
      refine ⟨_, by simp; rfl, ?_⟩
      refine WS.d (by simp) (by simp; rfl) (by simp) (by kernel_rfl) ?_
      refine WS.keep [0, 1, 5, 26] ?_
      refine WP.cond (by first | rfl | (simp; rfl)) (fun hb => ?_) (fun hb => ?_)
      · exact absurd hb (by simp)
      · try simp at hb
        refine WP.skip ?_
        refine WP.regN prg (by kernel_rfl) ?_ -- region 5
        refine WN.op prg (by simp) (by simp; rfl) (by simp) ?_
        refine WN.op prg (by simp) (by simp; rfl) (by simp) ?_
        refine WN.op prg (by simp) (by simp; rfl) (by simp) ?_
        refine WN.keep [0, 1, 5] ?_
        exact ⟨by omega, trivial, by simp [wrap_id (n := (k : Int) + 1) (by omega) (by omega)]⟩
    · try simp at hb
      refine WP.exit ?_
      refine WP.seq ?_
      refine WP.regN prg (by kernel_rfl) ?_ -- region 8
      refine WN.op prg (by simp) (by simp; rfl) (by simp) ?_
      refine WN.keep [4] ?_
      refine WP.ret (DoneQ.ret [] (by simp; rfl) (by simp; rfl) ?_)
      exact ⟨rfl, by simp⟩
theorem c_eqPuzzle (p : Puzzle) (hp : smallP p) : CallsA Try.prog 28 [p.v false, p.v false] [] fun x ho => ho = [] ∧ x = .v (.c (.bool (true))) := by
  unfold Puzzle.v rulesD
  refine CallsA.of (tv := tyOf Try.prog) (fn := Try.f28) prg.tv Try.func28 rfl rfl (by simp) ?_
  refine WP.seq ?_
  refine WP.regN prg (by kernel_rfl) ?_ -- region 0
  refine WN.op prg (by simp) (by simp; rfl) (by simp) ?_
  refine WN.op prg (by simp) (by simp; rfl) (by simp) ?_
  refine WN.op prg (by simp) (by simp; rfl) (by simp) ?_
  refine WN.keep [2, 3] ?_
  refine WP.seq ?_
  refine WP.seq ?_
  refine WP.regN prg (by kernel_rfl) ?_ -- region 1
  refine WN.op prg (by simp) (by simp; rfl) (by simp) ?_
  refine WN.op prg (by simp) (by simp; rfl) (by first | (simp; done) | (simp; omega)) ?_
  refine WN.op prg (by simp) (by simp; rfl) (by simp) ?_
  refine WN.op prg (by simp) (by simp; rfl) (by first | (simp; done) | (simp; omega)) ?_
  refine WN.op prg (by simp) (by simp; rfl) (by simp) ?_
  refine WN.keep [2, 3, 9] ?_
  refine WP.cond (by first | rfl | (simp; rfl)) (fun hb => ?_) (fun hb => ?_)
  · exact absurd hb (by simp)
  · try simp at hb
    refine WP.skip ?_
    refine WP.seq ?_
    refine WP.seq ?_
    refine WP.regN prg (by kernel_rfl) ?_ -- region 3
    refine WN.op prg (by simp) (by simp; rfl) (by simp) ?_
    refine WN.op prg (by simp) (by simp; rfl) (by first | (simp; done) | (simp; omega)) ?_
    refine WN.op prg (by simp) (by simp; rfl) (by simp) ?_
    refine WN.op prg (by simp) (by simp; rfl) (by first | (simp; done) | (simp; omega)) ?_
    refine WN.call prg [] [] (by simp) rfl (by simp; rfl) (by simp) (CallsA.at (by simp) (by simp) (c_eqIntS p.given hp.1)) ?_
    rintro _ _ ⟨rfl, rfl⟩
    refine ⟨_, by simp; rfl, ?_⟩
    refine WN.op prg (by simp) (by simp; rfl) (by simp) ?_
    refine WN.keep [2, 3, 15] ?_
    refine WP.cond (by first | rfl | (simp; rfl)) (fun hb => ?_) (fun hb => ?_)
    · exact absurd hb (by simp)
    · try simp at hb
      refine WP.skip ?_
      refine WP.seq ?_
      refine WP.seq ?_
      refine WP.regN prg (by kernel_rfl) ?_ -- region 5
      refine WN.op prg (by simp) (by simp; rfl) (by simp) ?_
      refine WN.op prg (by simp) (by simp; rfl) (by first | (simp; done) | (simp; omega)) ?_
      refine WN.op prg (by simp) (by simp; rfl) (by simp) ?_
      refine WN.op prg (by simp) (by simp; rfl) (by first | (simp; done) | (simp; omega)) ?_
      refine WN.call prg [] [] (by simp) rfl (by simp; rfl) (by simp) (CallsA.at (by simp) (by simp) (c_eqRuleS p.rules hp.2)) ?_
      rintro _ _ ⟨rfl, rfl⟩
      refine ⟨_, by simp; rfl, ?_⟩
      refine WN.op prg (by simp) (by simp; rfl) (by simp) ?_
      refine WN.keep [21] ?_
      refine WP.cond (by first | rfl | (simp; rfl)) (fun hb => ?_) (fun hb => ?_)
      · exact absurd hb (by simp)
      · try simp at hb
        refine WP.skip ?_
        refine WP.seq ?_
        refine WP.regN prg (by kernel_rfl) ?_ -- region 7
        refine WN.op prg (by simp) (by simp; rfl) (by simp) ?_
        refine WN.keep [4] ?_
        refine WP.ret (DoneQ.ret [] (by simp; rfl) (by simp; rfl) ?_)
        exact ⟨rfl, by simp⟩
def fillR (src : List Rule) : Nat → List (List D)
  | 0 => List.replicate src.length [.int .i64 0, .ints .i64 [], .int .i64 0]
  | k + 1 => (fillR src k).set k ((src.map Rule.d)[k]?.getD [])
theorem fillR_len (src : List Rule) : ∀ k, (fillR src k).length = src.length
  | 0 => by simp [fillR]
  | k + 1 => by simp [fillR, fillR_len src k]
theorem fillR_get (src : List Rule) : ∀ k i, i < k → i < src.length → (fillR src k)[i]? = some ((src.map Rule.d)[i]?.getD [])
  | 0, i, h, _ => by omega
  | k + 1, i, h, hl => by
    simp only [fillR, List.getElem?_set, fillR_len]
    by_cases e : k = i
    · subst e
      rw [if_pos rfl, if_pos hl]
    · rw [if_neg e, fillR_get src k i (by omega) hl]
theorem fillR_all (src : List Rule) : fillR src src.length = src.map Rule.d := by
  apply List.ext_getElem?
  intro i
  by_cases hi : i < src.length
  · rw [fillR_get src _ i hi hi]
    simp [List.getElem?_eq_getElem hi]
  · rw [List.getElem?_eq_none (by rw [fillR_len]; omega), List.getElem?_eq_none (by simp; omega)]
theorem c_toRuleS (rs : List Rule) (hl : smallR rs) : CallsA Try.prog 87 [.c (.dsl false (.recs 3 (rs.map Rule.d)))] [] fun x ho => ho = [] ∧ x = .v (.c (.dsl true (.recs 3 (rs.map Rule.d)))) := by
  have hl1 := hl.1
  refine CallsA.of (tv := tyOf Try.prog) (fn := Try.f87) prg.tv Try.func87 rfl rfl (by simp) ?_
  refine WP.seq ?_
  refine WP.regN prg (by kernel_rfl) ?_ -- region 0
  refine WN.op prg (by simp) (by simp; rfl) (by simp) ?_
  refine WN.keep [0] ?_
  refine WP.seq ?_
  refine WP.regN prg (by kernel_rfl) ?_ -- region 1
  refine WN.op prg (by simp) (by simp; rfl) (by simp) ?_
  refine WN.op prg (by simp) (by simp; rfl) (by simp) ?_
  refine WN.op prg (by simp) (by simp; rfl) (by first | (simp; done) | (simp; omega)) ?_
  refine WN.op prg (by simp) (by simp; rfl) (by simp) ?_
  refine WN.keep [0, 3] ?_
  refine WP.seq ?_
  refine WP.seq ?_
  refine WP.regN prg (by kernel_rfl) ?_ -- region 2
  refine WN.op prg (by simp) (by simp; rfl) (by simp) ?_
  refine WN.keep [0, 3, 4] ?_
  refine WP.block ?_
  refine WP.loopU (rs.length) (fun k => [(4, .v (.c (.int .i64 (k))))]) (fun k => [(56, .arr 0 true (.recs 3 (fillR rs k)))]) (fun k => True) (fun k => by simp [putAll]; rfl) (fun k => by simp; rfl) (by simp) (by simp) (by simp [fillR]) ?_
  intro k hk _
  have hfl := fillR_len rs k
  refine WP.seq ?_
  refine WP.seq ?_
  refine WP.regN prg (by kernel_rfl) ?_ -- region 3
  refine WN.op prg (by simp) (by simp; rfl) (by simp) ?_
  refine WN.op prg (by simp) (by simp; rfl) (by simp) ?_
  refine WN.op prg (by simp) (by simp; rfl) (by simp) ?_
  refine WN.op prg (by simp) (by simp; rfl) (by simp) ?_
  refine WN.keep [0, 3, 4, 11] ?_
  refine WP.cond (by first | rfl | (simp; rfl)) (fun hb => ?_) (fun hb => ?_)
  · try simp at hb
    refine WP.skip ?_
    refine WP.seq ?_
    refine WP.block ?_
    refine WP.regN prg (by kernel_rfl) ?_ -- region 5
    obtain ⟨r, hr⟩ : ∃ r, rs[k]? = some r := ⟨_, List.getElem?_eq_getElem (by omega)⟩
    refine WN.op prg (by simp) (by simp; rfl) (by simp) ?_
    refine WN.op prg (by simp) (by simp; rfl) (by simp) ?_
    refine WN.op prg (by simp) (by simp; rfl) (by simp) ?_
    refine WN.op prg (by simp) (by simp; rfl) (by simp) ?_
    refine WN.op prg (by simp) (by simp; rfl) (by first | (simp; done) | (simp; omega)) ?_
    refine WN.op prg (by simp) (by simp [hr, Rule.d]; rfl) (by simp) ?_
    refine WN.call prg [] [] (by simp) rfl (by simp; rfl) (by simp) (CallsA.at (by simp) (by simp) (c_toRule r (hl.2 r (List.mem_of_getElem? hr)))) ?_
    rintro _ _ ⟨rfl, rfl⟩
    refine ⟨_, by simp; rfl, ?_⟩
    refine WN.op prg (by simp) (by simp; rfl) (by first | (simp; done) | (simp; omega)) ?_
    refine WN.storeRec (id := 56) (ver := 0) (j := k) (es := 3) (fr := true) (f := true) (xs := fillR rs k) (cs := [.int .i64 r.kind, .dsl true (.ints .i64 r.cells), .int .i64 r.value]) (ds := r.d) prg (by simp) (by simp; rfl) (by simp) (by simp) (by simp) (by simp [Rule.d]) (by simp) (by rw [fillR_len]; omega) ?_
    refine WN.keep [0, 3, 4] ?_
    refine WP.regN prg (by kernel_rfl) ?_ -- region 4
    refine WN.op prg (by simp) (by simp; rfl) (by simp) ?_
    refine WN.op prg (by simp) (by simp; rfl) (by simp) ?_
    refine WN.op prg (by simp) (by simp; rfl) (by simp) ?_
    refine WN.keep [0, 3, 4] ?_
    have hx : (rs.map Rule.d)[k]?.getD [] = r.d := by simp [hr]
    exact ⟨by omega, trivial, by simp only [fillR, hx]; simp [Rule.d, wrap_id (n := (k : Int) + 1) (by omega) (by omega)]⟩
  · try simp at hb
    refine WP.exit ?_
    refine WP.seq ?_
    refine WP.regN prg (by kernel_rfl) ?_ -- region 6
    refine WN.op prg (by simp) (by simp; rfl) (by simp) ?_
    refine WN.op prg (by simp) (by simp; rfl) (by simp) ?_
    refine WN.keep [2] ?_
    refine WP.ret (DoneQ.ret [] (by simp; rfl) (by simp; rfl) ?_)
    have hkk : k = rs.length := by omega
    exact ⟨rfl, by simp [hkk, fillR_all, List.take_of_length_le]⟩
theorem c_toPuzzle (p : Puzzle) (hp : smallP p) : CallsA Try.prog 24 [p.v false] [] fun x ho => ho = [] ∧ x = .v (p.v true) := by
  unfold Puzzle.v rulesD
  refine CallsA.of (tv := tyOf Try.prog) (fn := Try.f24) prg.tv Try.func24 rfl rfl (by simp) ?_
  refine WP.seq ?_
  refine WP.regN prg (by kernel_rfl) ?_ -- region 0
  refine WN.op prg (by simp) (by simp; rfl) (by simp) ?_
  refine WN.op prg (by simp) (by simp; rfl) (by simp) ?_
  refine WN.keep [1, 2] ?_
  refine WP.seq ?_
  refine WP.regN prg (by kernel_rfl) ?_ -- region 1
  refine WN.op prg (by simp) (by simp; rfl) (by simp) ?_
  refine WN.keep [1, 2, 3] ?_
  refine WP.seq ?_
  refine WP.regN prg (by kernel_rfl) ?_ -- region 2
  refine WN.op prg (by simp) (by simp; rfl) (by simp) ?_
  refine WN.op prg (by simp) (by simp; rfl) (by first | (simp; done) | (simp; omega)) ?_
  refine WN.op prg (by simp) (by simp; rfl) (by simp) ?_
  refine WN.op prg (by simp) (by simp; rfl) (by first | (simp; done) | (simp; omega)) ?_
  refine WN.keep [1, 2, 3] ?_
  refine WP.seq ?_
  refine WP.regN prg (by kernel_rfl) ?_ -- region 3
  refine WN.op prg (by simp) (by simp; rfl) (by simp) ?_
  refine WN.op prg (by simp) (by simp; rfl) (by first | (simp; done) | (simp; omega)) ?_
  refine WN.call prg [] [] (by simp) rfl (by simp; rfl) (by simp) (CallsA.at (by simp) (by simp) (c_toIntS p.given hp.1)) ?_
  rintro _ _ ⟨rfl, rfl⟩
  refine ⟨_, by simp; rfl, ?_⟩
  refine WN.op prg (by simp) (by simp; rfl) (by simp) ?_
  refine WN.op prg (by simp) (by simp; rfl) (by first | (simp; done) | (simp; omega)) ?_
  refine WN.keep [1, 2, 3] ?_
  refine WP.seq ?_
  refine WP.regN prg (by kernel_rfl) ?_ -- region 4
  refine WN.op prg (by simp) (by simp; rfl) (by simp) ?_
  refine WN.op prg (by simp) (by simp; rfl) (by first | (simp; done) | (simp; omega)) ?_
  refine WN.call prg [] [] (by simp) rfl (by simp; rfl) (by simp) (CallsA.at (by simp) (by simp) (c_toRuleS p.rules hp.2)) ?_
  rintro _ _ ⟨rfl, rfl⟩
  refine ⟨_, by simp; rfl, ?_⟩
  refine WN.op prg (by simp) (by simp; rfl) (by simp) ?_
  refine WN.op prg (by simp) (by simp; rfl) (by first | (simp; done) | (simp; omega)) ?_
  refine WN.keep [2, 3] ?_
  refine WP.seq ?_
  refine WP.regN prg (by kernel_rfl) ?_ -- region 5
  refine WN.op prg (by simp) (by simp; rfl) (by first | (simp; done) | (simp; omega)) ?_
  refine WN.op prg (by simp) (by simp; rfl) (by first | (simp; done) | (simp; omega)) ?_
  refine WN.keep [2] ?_
  refine WP.ret (DoneQ.ret [] (by simp; rfl) (by simp; rfl) ?_)
  exact ⟨rfl, by simp⟩
def hT (o : Option (Int × Nat × Int)) : Int := (o.map (·.1)).getD 0
def hC (o : Option (Int × Nat × Int)) : Int := ((o.map (·.2.1)).getD 0 : Nat)
def hW (o : Option (Int × Nat × Int)) : Int := (o.map (·.2.2)).getD 0
theorem hintV_eq (o : Option (Int × Nat × Int)) : hintV o = .tup [.agg [.int .i64 (hT o), .int .i64 (hC o), .int .i64 (hW o)], .c (.bool o.isSome)] := by
  cases o with
  | none => rfl
  | some q => obtain ⟨t, c, v⟩ := q; rfl
theorem c_specNextHint' (p : Puzzle) (g : List Int) (hp : p.Fits) (hl : g.length ≤ 140737488355328) : CallsA Try.prog 23 [p.v false, .c (.dsl false (.ints .i64 (g)))] [] fun r ho => ho = [] ∧ r = .tup [.agg [.int .i64 (hT (nextHint p g)), .int .i64 (hC (nextHint p g)), .int .i64 (hW (nextHint p g))], .c (.bool (nextHint p g).isSome)] := by
  rw [← hintV_eq]
  exact c_specNextHint p g hp hl
theorem c_implNextHint' (p : Puzzle) (g : List Int) (hp : p.Fits) (hl : g.length ≤ 140737488355328) : CallsA Try.prog 26 [p.v false, .c (.dsl false (.ints .i64 (g)))] [] fun r ho => ho = [] ∧ r = .tup [.agg [.int .i64 (hT (nextHint p g)), .int .i64 (hC (nextHint p g)), .int .i64 (hW (nextHint p g))], .c (.bool (nextHint p g).isSome)] := by
  rw [← hintV_eq]
  exact c_implNextHint p g hp hl
theorem c_exactNextHint (p : Puzzle) (g : List Int) (hp : p.Big) (hl : g.length ≤ 9223372036854775807) : CallsA Try.prog 4 [p.v false, .c (.dsl false (.ints .i64 (g)))] [] fun x ho => ho = [] ∧ x = .v (.c (.bool (true))) := by
  unfold Puzzle.v rulesD
  refine CallsA.of (tv := tyOf Try.prog) (fn := Try.f4) prg.tv Try.func4 rfl rfl (by simp) ?_
  refine WP.seq ?_
  refine WP.regN prg (by kernel_rfl) ?_ -- region 0
  refine WN.op prg (by simp) (by simp; rfl) (by simp) ?_
  refine WN.op prg (by simp) (by simp; rfl) (by simp) ?_
  refine WN.keep [1, 2] ?_
  refine WP.seq ?_
  refine WP.seq ?_
  refine WP.regN prg (by kernel_rfl) ?_ -- region 1
  refine WN.op prg (by simp) (by simp; rfl) (by simp) ?_
  refine WN.op prg (by simp) (by simp; rfl) (by simp) ?_
  refine WN.op prg (by simp) (by simp; rfl) (by simp) ?_
  refine WN.keep [1, 2, 14] ?_
  refine WP.cond (by first | rfl | (simp; rfl)) (fun hb => ?_) (fun hb => ?_)
  · try simp at hb
    refine WP.seq ?_
    refine WP.regN prg (by kernel_rfl) ?_ -- region 2
    refine WN.op prg (by simp) (by simp; rfl) (by simp) ?_
    refine WN.keep [4] ?_
    refine WP.ret (DoneQ.ret [] (by simp; rfl) (by simp; rfl) ?_)
    exact ⟨rfl, by simp⟩
  · try simp at hb
    refine WP.skip ?_
    refine WP.seq ?_
    refine WP.regN prg (by kernel_rfl) ?_ -- region 3
    refine WN.op prg (by simp) (by simp; rfl) (by simp) ?_
    refine WN.keep [1, 2, 5] ?_
    refine WP.seq ?_
    refine WP.regN prg (by kernel_rfl) ?_ -- region 4
    refine WN.op prg (by simp) (by simp; rfl) (by first | (simp; done) | (simp; omega)) ?_
    refine WN.op prg (by simp) (by simp; rfl) (by simp) ?_
    have hg : g.length ≤ 1048576 := by omega
    refine WN.call prg [] [] (by simp) rfl (by simp; rfl) (by simp) (CallsA.at (by simp) (by simp) (c_szPuzzle p 1048576 hp (by omega) (by omega))) ?_
    rintro _ _ ⟨s, rfl, rfl, hs0, hs1, hss⟩
    refine ⟨_, by simp; rfl, ?_⟩
    refine WN.op prg (by simp) (by simp; rfl) (by simp) ?_
    refine WN.keep [1, 2, 5] ?_
    refine WP.seq ?_
    refine WP.seq ?_
    refine WP.regN prg (by kernel_rfl) ?_ -- region 5
    refine WN.op prg (by simp) (by simp; rfl) (by simp) ?_
    refine WN.op prg (by simp) (by simp; rfl) (by simp) ?_
    refine WN.keep [1, 2, 19] ?_
    refine WP.cond (by first | rfl | (simp; rfl)) (fun hb => ?_) (fun hb => ?_)
    · try simp at hb
      refine WP.seq ?_
      refine WP.regN prg (by kernel_rfl) ?_ -- region 6
      refine WN.op prg (by simp) (by simp; rfl) (by simp) ?_
      refine WN.keep [4] ?_
      refine WP.ret (DoneQ.ret [] (by simp; rfl) (by simp; rfl) ?_)
      exact ⟨rfl, by simp⟩
    · try simp at hb
      refine WP.skip ?_
      refine WP.seq ?_
      refine WP.regN prg (by kernel_rfl) ?_ -- region 7
      refine WN.op prg (by simp) (by simp; rfl) (by first | (simp; done) | (simp; omega)) ?_
      have hsp := hss hb
      refine WN.call prg [] [] (by simp) rfl (by simp; rfl) (by simp) (CallsA.at (by simp) (by simp) (c_toPuzzle p hsp)) ?_
      rintro _ _ ⟨rfl, rfl⟩
      refine ⟨_, by simp; rfl, ?_⟩
      refine WN.op prg (by simp) (by simp; rfl) (by simp) ?_
      refine WN.call prg [] [] (by simp) rfl (by simp; rfl) (by simp) (CallsA.at (by simp) (by simp) (c_toIntS g hg)) ?_
      rintro _ _ ⟨rfl, rfl⟩
      refine ⟨_, by simp; rfl, ?_⟩
      refine WN.call prg [] [] (by simp) rfl (by simp; rfl) (by simp) (CallsA.at (by simp) (by simp) (c_specNextHint' p g hsp.fits (by omega))) ?_
      rintro _ _ ⟨rfl, rfl⟩
      refine ⟨_, by simp; rfl, ?_⟩
      refine WN.op prg (by simp) (by simp; rfl) (by simp) ?_
      refine WN.op prg (by simp) (by simp; rfl) (by simp) ?_
      refine WN.op prg (by simp) (by simp; rfl) (by simp) ?_
      refine WN.op prg (by simp) (by simp; rfl) (by simp) ?_
      refine WN.op prg (by simp) (by simp; rfl) (by first | (simp; done) | (simp; omega)) ?_
      refine WN.op prg (by simp) (by simp; rfl) (by simp) ?_
      refine WN.keep [1, 2, 6, 7] ?_
      refine WP.seq ?_
      refine WP.regN prg (by kernel_rfl) ?_ -- region 8
      refine WN.op prg (by simp) (by simp; rfl) (by first | (simp; done) | (simp; omega)) ?_
      refine WN.call prg [] [] (by simp) rfl (by simp; rfl) (by simp) (CallsA.at (by simp) (by simp) (c_toPuzzle p hsp)) ?_
      rintro _ _ ⟨rfl, rfl⟩
      refine ⟨_, by simp; rfl, ?_⟩
      refine WN.op prg (by simp) (by simp; rfl) (by simp) ?_
      refine WN.op prg (by simp) (by simp; rfl) (by first | (simp; done) | (simp; omega)) ?_
      refine WN.keep [1, 2, 6, 7, 8] ?_
      refine WP.seq ?_
      refine WP.regN prg (by kernel_rfl) ?_ -- region 9
      refine WN.op prg (by simp) (by simp; rfl) (by simp) ?_
      refine WN.call prg [] [] (by simp) rfl (by simp; rfl) (by simp) (CallsA.at (by simp) (by simp) (c_toIntS g hg)) ?_
      rintro _ _ ⟨rfl, rfl⟩
      refine ⟨_, by simp; rfl, ?_⟩
      refine WN.op prg (by simp) (by simp; rfl) (by simp) ?_
      refine WN.keep [1, 2, 6, 7, 8, 9] ?_
      refine WP.seq ?_
      refine WP.regN prg (by kernel_rfl) ?_ -- region 10
      refine WN.op prg (by simp) (by simp; rfl) (by first | (simp; done) | (simp; omega)) ?_
      refine WN.op prg (by simp) (by simp; rfl) (by simp) ?_
      refine WN.call prg [] [] (by simp) rfl (by simp; rfl) (by simp) (CallsA.at (by simp) (by simp) (c_implNextHint' p g hsp.fits (by omega))) ?_
      rintro _ _ ⟨rfl, rfl⟩
      refine ⟨_, by simp; rfl, ?_⟩
      refine WN.op prg (by simp) (by simp; rfl) (by simp) ?_
      refine WN.op prg (by simp) (by simp; rfl) (by simp) ?_
      refine WN.op prg (by simp) (by simp; rfl) (by simp) ?_
      refine WN.op prg (by simp) (by simp; rfl) (by simp) ?_
      refine WN.op prg (by simp) (by simp; rfl) (by first | (simp; done) | (simp; omega)) ?_
      refine WN.op prg (by simp) (by simp; rfl) (by simp) ?_
      refine WN.keep [1, 2, 6, 7, 8, 9, 10, 11] ?_
      refine WP.seq ?_
      refine WP.seq ?_
      refine WP.regN prg (by kernel_rfl) ?_ -- region 11
      refine WN.op prg (by simp) (by simp; rfl) (by first | (simp; done) | (simp; omega)) ?_
      refine WN.op prg (by simp) (by simp; rfl) (by first | (simp; done) | (simp; omega)) ?_
      refine WN.call prg [] [] (by simp) rfl (by simp; rfl) (by simp) (CallsA.at (by simp) (by simp) (c_eqHint (hT (nextHint p g)) (hC (nextHint p g)) (hW (nextHint p g)))) ?_
      rintro _ _ ⟨rfl, rfl⟩
      refine ⟨_, by simp; rfl, ?_⟩
      refine WN.op prg (by simp) (by simp; rfl) (by simp) ?_
      refine WN.op prg (by simp) (by simp; rfl) (by simp) ?_
      apply WN.join (t := 46) 4 42
      · first | rfl | (simp; rfl)
      · intro hg42
        refine WN.skip prg (by simp) ?_
        refine WN.skip prg (by simp) ?_
        refine WN.skip prg (by simp) ?_
        refine WN.op prg (by simp) (by simp; rfl) (by simp) ?_
        exact WN.keep [46, 1, 2, 8, 9] rfl
      · intro hg42
        refine WN.op prg (by simp) (by simp; rfl) (by simp) ?_
        refine WN.op prg (by simp) (by simp; rfl) (by simp) ?_
        refine WN.op prg (by simp) (by simp; rfl) (by simp) ?_
        refine WN.op prg (by simp) (by simp; rfl) (by simp) ?_
        exact WN.keep [46, 1, 2, 8, 9] rfl
      refine WN.keep [1, 2, 8, 9, 46] ?_
      refine WP.cond (by first | rfl | (simp; rfl)) (fun hb => ?_) (fun hb => ?_)
      · exact absurd hb (by simp)
      · try simp at hb
        refine WP.skip ?_
        refine WP.seq ?_
        refine WP.seq ?_
        refine WP.reg prg (by kernel_rfl) ?_ -- region 13 DRAWS
        refine WS.d (by simp) (by simp; rfl) (by first | (simp; done) | (simp; omega)) (by kernel_rfl) ?_
        refine WS.d (by simp) (by simp; rfl) (by first | (simp; done) | (simp; omega)) (by kernel_rfl) ?_
        refine WS.callD [] [] (by simp) rfl (by simp; rfl) (by simp) (CallsA.at (by simp) (by simp) (c_toPuzzle p hsp)) (by kernel_rfl) ⟨_, _, rfl, rfl⟩ ?_
        rintro _ _ ⟨rfl, rfl⟩
        refine ⟨_, by simp; rfl, ?_⟩
        refine WS.callD [] [] (by simp) rfl (by simp; rfl) (by simp) (CallsA.at (by simp) (by simp) (c_eqPuzzle p hsp)) (by kernel_rfl) ⟨_, _, rfl, rfl⟩ ?_
        rintro _ _ ⟨rfl, rfl⟩
        refine ⟨_, by simp; rfl, ?_⟩
        refine WS.d (by simp) (by simp; rfl) (by simp) (by kernel_rfl) ?_
        refine WS.keep [1, 9, 51] ?_
        refine WP.cond (by first | rfl | (simp; rfl)) (fun hb => ?_) (fun hb => ?_)
        · exact absurd hb (by simp)
        · try simp at hb
          refine WP.skip ?_
          refine WP.seq ?_
          refine WP.seq ?_
          refine WP.regN prg (by kernel_rfl) ?_ -- region 15
          refine WN.op prg (by simp) (by simp; rfl) (by simp) ?_
          refine WN.op prg (by simp) (by simp; rfl) (by simp) ?_
          refine WN.call prg [] [] (by simp) rfl (by simp; rfl) (by simp) (CallsA.at (by simp) (by simp) (c_toIntS g hg)) ?_
          rintro _ _ ⟨rfl, rfl⟩
          refine ⟨_, by simp; rfl, ?_⟩
          refine WN.call prg [] [] (by simp) rfl (by simp; rfl) (by simp) (CallsA.at (by simp) (by simp) (c_eqIntS g hg)) ?_
          rintro _ _ ⟨rfl, rfl⟩
          refine ⟨_, by simp; rfl, ?_⟩
          refine WN.op prg (by simp) (by simp; rfl) (by simp) ?_
          refine WN.keep [56] ?_
          refine WP.cond (by first | rfl | (simp; rfl)) (fun hb => ?_) (fun hb => ?_)
          · exact absurd hb (by simp)
          · try simp at hb
            refine WP.skip ?_
            refine WP.seq ?_
            refine WP.regN prg (by kernel_rfl) ?_ -- region 17
            refine WN.op prg (by simp) (by simp; rfl) (by simp) ?_
            refine WN.keep [4] ?_
            refine WP.ret (DoneQ.ret [] (by simp; rfl) (by simp; rfl) ?_)
            exact ⟨rfl, by simp⟩
end Go.Proofs.Ytaicenafkjbnoaa

