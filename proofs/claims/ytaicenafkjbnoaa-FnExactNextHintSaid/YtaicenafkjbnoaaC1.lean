/- Contracts: rules. -/
import Derived.Test.YtaicenafkjbnoaaC0
set_option linter.unusedVariables false
set_option linter.unusedSimpArgs false
namespace Go.Proofs.Ytaicenafkjbnoaa
open Go.AM
set_option maxRecDepth 100000

@[simp] def Rule.v (fr : Bool) (r : Rule) : V := .agg [.int .i64 r.kind, .dsl fr (.ints .i64 r.cells), .int .i64 r.value]
def Rule.d (r : Rule) : List D := [.int .i64 r.kind, .ints .i64 r.cells, .int .i64 r.value]
theorem ruleOk_eq {r : Rule} {n : Int} (h2 : 2 ≤ n) (h4 : n ≤ 4) (ha : r.cells.all (inGrid n) = true) (hn : r.cells.Nodup) : ruleOk r n = kindOk r n := by simp [ruleOk, h2, h4, ha, hn]
theorem pow_bound {n : Int} (h2 : 2 ≤ n) (h4 : n ≤ 4) : IntKind.i64.wrap (n * n) = n * n ∧ IntKind.i64.wrap (n * n * n) = n * n * n ∧ IntKind.i64.wrap (n * n * n * n) = n * n * n * n := by
  have : n = 2 ∨ n = 3 ∨ n = 4 := by omega
  rcases this with rfl | rfl | rfl <;> decide

theorem nodup_step {l : List Int} {k : Nat} (h : (l.take k).Nodup) (hk : k < l.length) (hx : l[k]?.getD 0 ∉ l.take k) : (l.take (k + 1)).Nodup := by
  rw [List.take_add_one]
  rw [List.getElem?_eq_getElem hk] at hx ⊢
  rw [List.nodup_append]
  refine ⟨h, by simp, fun a ha b hb => ?_⟩
  simp at hb hx
  subst hb
  exact fun e => hx (e ▸ ha)
theorem nodup_fail {l : List Int} {k : Nat} (hk : k < l.length) (hx : l[k]?.getD 0 ∈ l.take k) : ¬ l.Nodup := by
  intro h
  have : l = l.take k ++ l.drop k := (List.take_append_drop k l).symm
  rw [this, List.nodup_append] at h
  rw [List.getElem?_eq_getElem hk] at hx
  refine h.2.2 _ hx l[k] ?_ rfl
  exact List.mem_of_getElem? (i := 0) (by simp [List.getElem?_eq_getElem hk])
theorem c_implRuleValid (r : Rule) (n : Int) (hl : r.cells.length ≤ 140737488355328) : CallsA Try.prog 119 [r.v false, .c (.int .i64 n)] [] fun x ho => ho = [] ∧ x = .v (.c (.bool (ruleOk r n))) := by
  unfold Rule.v
  refine CallsA.of (tv := tyOf Try.prog) (fn := Try.f119) prg.tv Try.func119 rfl rfl (by simp) ?_
  refine WP.seq ?_
  refine WP.regN prg (by kernel_rfl) ?_ -- region 0
  refine WN.op prg (by simp) (by simp; rfl) (by simp) ?_
  refine WN.op prg (by simp) (by simp; rfl) (by simp) ?_
  refine WN.keep [1, 2] ?_
  refine WP.seq ?_
  refine WP.seq ?_
  refine WP.regN prg (by kernel_rfl) ?_ -- region 1
  refine WN.op prg (by simp) (by simp; rfl) (by simp) ?_
  refine WN.call prg [] [] (by simp) rfl (by simp; rfl) (by simp) (CallsA.at (by simp) (by simp) (c_sizeOk n)) ?_
  rintro _ _ ⟨rfl, rfl⟩
  refine ⟨_, by simp; rfl, ?_⟩
  refine WN.op prg (by simp) (by simp; rfl) (by simp) ?_
  refine WN.keep [1, 2, 10] ?_
  refine WP.cond (by first | rfl | (simp; rfl)) (fun hb => ?_) (fun hb => ?_)
  · try simp at hb
    refine WP.seq ?_
    refine WP.regN prg (by kernel_rfl) ?_ -- region 2
    refine WN.op prg (by simp) (by simp; rfl) (by simp) ?_
    refine WN.keep [4] ?_
    refine WP.ret (DoneQ.ret [] (by simp; rfl) (by simp; rfl) ?_)
    exact ⟨rfl, by simp [ruleOk]; omega⟩
  · try simp at hb
    refine WP.skip ?_
    refine WP.seq ?_
    refine WP.seq ?_
    refine WP.regN prg (by kernel_rfl) ?_ -- region 3
    refine WN.op prg (by simp) (by simp; rfl) (by simp) ?_
    refine WN.op prg (by simp) (by simp; rfl) (by first | (simp; done) | (simp; omega)) ?_
    refine WN.op prg (by simp) (by simp; rfl) (by simp) ?_
    refine WN.op prg (by simp) (by simp; rfl) (by simp) ?_
    refine WN.keep [1, 2, 12, 13, 14] ?_
    refine WP.block ?_
    obtain ⟨h2, h4⟩ := hb
    obtain ⟨hw2, hw3, hw4⟩ := pow_bound h2 h4
    refine WP.loop (fun i s => ∃ k, i = r.cells.length - k ∧ k ≤ r.cells.length ∧ (r.cells.take k).all (inGrid n) = true ∧ (r.cells.take k).Nodup ∧ s = ⟨[(1, .v (.c (.int .i64 n))), (2, .v (.c (.ptr 16 0 0 0))), (12, .v (.c (.dsl false (.ints .i64 r.cells)))), (13, .v (.c (.int .i64 r.cells.length))), (14, .v (.c (.int .i64 (k : Nat))))], [(16, .box 0 [.int .i64 r.kind, .dsl false (.ints .i64 r.cells), .int .i64 r.value])]⟩) r.cells.length ⟨0, by simp⟩ ?_
    rintro _ _ ⟨k, rfl, hk, hall, hnd, rfl⟩
    refine WP.seq ?_
    refine WP.regN prg (by kernel_rfl) ?_ -- region 4
    refine WN.op prg (by simp) (by simp; rfl) (by simp) ?_
    refine WN.keep [1, 2, 12, 13, 14, 15] ?_
    refine WP.seq ?_
    refine WP.cond (by first | rfl | (simp; rfl)) (fun hb => ?_) (fun hb => ?_)
    · try simp at hb
      refine WP.skip ?_
      refine WP.seq ?_
      refine WP.block ?_
      refine WP.seq ?_
      refine WP.regN prg (by kernel_rfl) ?_ -- region 5
      refine WN.op prg (by simp) (by simp; rfl) (by simp) ?_
      refine WN.op prg (by simp) (by simp; rfl) (by first | (simp; done) | (simp; omega)) ?_
      refine WN.op prg (by simp) (by simp; rfl) (by first | (simp; done) | (simp; omega)) ?_
      refine WN.op prg (by simp) (by simp; rfl) (by simp) ?_
      refine WN.op prg (by simp) (by simp; rfl) (by simp) ?_
      refine WN.keep [1, 2, 5, 6, 12, 13, 14] ?_
      refine WP.seq ?_
      refine WP.regN prg (by kernel_rfl) ?_ -- region 6
      refine WN.op prg (by simp) (by simp; rfl) (by simp) ?_
      refine WN.op prg (by simp) (by simp; rfl) (by simp) ?_
      refine WN.op prg (by simp) (by simp; rfl) (by simp) ?_
      apply WN.join (t := 27) 6 21
      · first | rfl | (simp; rfl)
      · intro hg21
        refine WN.skip prg (by simp) ?_
        refine WN.skip prg (by simp) ?_
        refine WN.skip prg (by simp) ?_
        refine WN.skip prg (by simp) ?_
        refine WN.skip prg (by simp) ?_
        refine WN.op prg (by simp) (by simp; rfl) (by simp) ?_
        exact WN.keep [27, 1, 2, 5, 6, 12, 13, 14, 29, 30, 31, 32, 33, 34] rfl
      · intro hg21
        refine WN.op prg (by simp) (by simp; rfl) (by simp) ?_
        refine WN.op prg (by simp) (by simp; rfl) (by simp) ?_
        refine WN.op prg (by simp) (by simp; rfl) (by simp) ?_
        refine WN.op prg (by simp) (by simp; rfl) (by simp) ?_
        refine WN.op prg (by simp) (by simp; rfl) (by simp) ?_
        refine WN.op prg (by simp) (by simp; rfl) (by simp) ?_
        exact WN.keep [27, 1, 2, 5, 6, 12, 13, 14, 29, 30, 31, 32, 33, 34] rfl
      refine WN.op prg (by simp) (by simp; rfl) (by simp) ?_
      apply WN.join (t := 35) 7 28
      · first | rfl | (simp; rfl)
      · intro hg28
        refine WN.skip prg (by simp) ?_
        refine WN.skip prg (by simp) ?_
        refine WN.skip prg (by simp) ?_
        refine WN.skip prg (by simp) ?_
        refine WN.skip prg (by simp) ?_
        refine WN.skip prg (by simp) ?_
        refine WN.op prg (by simp) (by simp; rfl) (by simp) ?_
        exact WN.keep [35, 1, 2, 12, 13, 14] rfl
      · intro hg28
        refine WN.op prg (by simp) (by simp; rfl) (by simp) ?_
        refine WN.op prg (by simp) (by simp; rfl) (by first | (simp; done) | (simp; omega)) ?_
        refine WN.op prg (by simp) (by simp; rfl) (by simp) ?_
        refine WN.op prg (by simp) (by simp; rfl) (by first | (simp; done) | (simp; omega)) ?_
        refine WN.op prg (by simp) (by simp; rfl) (by simp) ?_
        refine WN.call prg [] [] (by simp) rfl (by simp; rfl) (by simp) (CallsA.at (by simp) (by simp) (c_contains (r.cells.take k) (r.cells[k]?.getD 0) (by simp; omega))) ?_
        rintro _ _ ⟨rfl, rfl⟩
        refine ⟨_, by simp; rfl, ?_⟩
        refine WN.op prg (by simp) (by simp; rfl) (by simp) ?_
        exact WN.keep [35, 1, 2, 12, 13, 14] rfl
      refine WN.keep [1, 2, 12, 13, 14, 35] ?_
      refine WP.cond (by first | rfl | (simp; rfl)) (fun hb => ?_) (fun hb => ?_)
      · try simp at hb
        refine WP.seq ?_
        refine WP.regN prg (by kernel_rfl) ?_ -- region 7
        refine WN.op prg (by simp) (by simp; rfl) (by simp) ?_
        refine WN.keep [4] ?_
        refine WP.ret (DoneQ.ret [] (by simp; rfl) (by simp; rfl) ?_)
        rename_i hkl
        rw [hw2] at hb
        have : ruleOk r n = false := by
          rcases hb with hb | hb
          · simp [ruleOk, all_fail (p := inGrid n) hkl (by simp [inGrid]; omega)]
          · simp [ruleOk, nodup_fail hkl hb]
        exact ⟨rfl, by simp [this]⟩
      · try simp at hb
        refine WP.skip ?_
        refine WP.regN prg (by kernel_rfl) ?_ -- region 8
        refine WN.op prg (by simp) (by simp; rfl) (by simp) ?_
        refine WN.op prg (by simp) (by simp; rfl) (by simp) ?_
        refine WN.keep [1, 2, 12, 13, 14] ?_
        rename_i hkl
        rw [hw2] at hb
        exact ⟨r.cells.length - (k + 1), by omega, k + 1, rfl, by omega, all_step hall (by simp [inGrid]; omega), nodup_step hnd hkl hb.2, by simp [wrap_id (n := (k : Int) + 1) (by omega) (by omega)]⟩
    · try simp at hb
      refine WP.exit ?_
      refine WP.seq ?_
      refine WP.regN prg (by kernel_rfl) ?_ -- region 9
      refine WN.op prg (by simp) (by simp; rfl) (by simp) ?_
      refine WN.op prg (by simp) (by simp; rfl) (by first | (simp; done) | (simp; omega)) ?_
      refine WN.op prg (by simp) (by simp; rfl) (by simp) ?_
      refine WN.op prg (by simp) (by simp; rfl) (by simp) ?_
      refine WN.keep [1, 2, 7] ?_
      refine WP.seq ?_
      refine WP.seq ?_
      refine WP.regN prg (by kernel_rfl) ?_ -- region 10
      refine WN.op prg (by simp) (by simp; rfl) (by simp) ?_
      refine WN.op prg (by simp) (by simp; rfl) (by first | (simp; done) | (simp; omega)) ?_
      refine WN.keep [1, 2, 7, 41] ?_
      refine WP.block ?_
      refine WP.seq ?_
      refine WP.regN prg (by kernel_rfl) ?_ -- region 11
      refine WN.op prg (by simp) (by simp; rfl) (by simp) ?_
      refine WN.op prg (by simp) (by simp; rfl) (by simp) ?_
      refine WN.keep [1, 2, 7, 41, 42] ?_
      refine WP.cond (by first | rfl | (simp; rfl)) (fun hb => ?_) (fun hb => ?_)
      · try simp at hb
        refine WP.seq ?_
        refine WP.regN prg (by kernel_rfl) ?_ -- region 12
        refine WN.op prg (by simp) (by simp; rfl) (by simp) ?_
        refine WN.op prg (by simp) (by simp; rfl) (by simp) ?_
        refine WN.op prg (by simp) (by simp; rfl) (by simp) ?_
        apply WN.join (t := 49) 3 46
        · first | rfl | (simp; rfl)
        · intro hg46
          refine WN.op prg (by simp) (by simp; rfl) (by simp) ?_
          refine WN.op prg (by simp) (by simp; rfl) (by simp) ?_
          refine WN.op prg (by simp) (by simp; rfl) (by simp) ?_
          exact WN.keep [49, 2, 51, 52, 53] rfl
        · intro hg46
          refine WN.skip prg (by simp) ?_
          refine WN.skip prg (by simp) ?_
          refine WN.op prg (by simp) (by simp; rfl) (by simp) ?_
          exact WN.keep [49, 2, 51, 52, 53] rfl
        refine WN.op prg (by simp) (by simp; rfl) (by simp) ?_
        apply WN.join (t := 54) 4 50
        · first | rfl | (simp; rfl)
        · intro hg50
          refine WN.op prg (by simp) (by simp; rfl) (by simp) ?_
          refine WN.op prg (by simp) (by simp; rfl) (by first | (simp; done) | (simp; omega)) ?_
          refine WN.op prg (by simp) (by simp; rfl) (by simp) ?_
          refine WN.op prg (by simp) (by simp; rfl) (by simp) ?_
          exact WN.keep [54] rfl
        · intro hg50
          refine WN.skip prg (by simp) ?_
          refine WN.skip prg (by simp) ?_
          refine WN.skip prg (by simp) ?_
          refine WN.op prg (by simp) (by simp; rfl) (by simp) ?_
          exact WN.keep [54] rfl
        refine WN.op prg (by simp) (by simp; rfl) (by simp) ?_
        refine WN.keep [4] ?_
        refine WP.ret (DoneQ.ret [] (by simp; rfl) (by simp; rfl) ?_)
        have hk2 : r.cells.length = k := by omega
        subst hk2
        rw [List.take_length] at hall hnd
        refine ⟨rfl, ?_⟩
        simp [ruleOk_eq h2 h4 hall hnd, hw2, hw3, hw4]
        rw [Bool.eq_iff_iff]
        unfold kindOk
        repeat' split
        all_goals first | omega | (simp; done) | (simp; omega)
      · try simp at hb
        refine WP.seq ?_
        refine WP.seq ?_
        refine WP.regN prg (by kernel_rfl) ?_ -- region 13
        refine WN.op prg (by simp) (by simp; rfl) (by simp) ?_
        refine WN.op prg (by simp) (by simp; rfl) (by simp) ?_
        refine WN.keep [1, 2, 7, 41, 55] ?_
        apply WP.join (t := 55)
        · first | rfl | (simp; rfl)
        · intro hb
          exact WP.keep [55, 1, 2, 7, 41] (WP.skip rfl)
        · intro hb
          refine WP.regN prg (by kernel_rfl) ?_ -- region 14
          refine WN.op prg (by simp) (by simp; rfl) (by simp) ?_
          refine WN.op prg (by simp) (by simp; rfl) (by simp) ?_
          exact WN.keep [55, 1, 2, 7, 41] rfl
        refine WP.cond (by first | rfl | (simp; rfl)) (fun hb => ?_) (fun hb => ?_)
        · try simp at hb
          refine WP.seq ?_
          refine WP.regN prg (by kernel_rfl) ?_ -- region 15
          refine WN.op prg (by simp) (by simp; rfl) (by simp) ?_
          refine WN.op prg (by simp) (by simp; rfl) (by simp) ?_
          refine WN.op prg (by simp) (by simp; rfl) (by simp) ?_
          apply WN.join (t := 63) 3 60
          · first | rfl | (simp; rfl)
          · intro hg60
            refine WN.op prg (by simp) (by simp; rfl) (by simp) ?_
            refine WN.op prg (by simp) (by simp; rfl) (by simp) ?_
            refine WN.op prg (by simp) (by simp; rfl) (by simp) ?_
            exact WN.keep [63, 1, 2, 65, 66, 67, 70, 71, 72, 73, 74, 75, 76, 77, 78, 79] rfl
          · intro hg60
            refine WN.skip prg (by simp) ?_
            refine WN.skip prg (by simp) ?_
            refine WN.op prg (by simp) (by simp; rfl) (by simp) ?_
            exact WN.keep [63, 1, 2, 65, 66, 67, 70, 71, 72, 73, 74, 75, 76, 77, 78, 79] rfl
          refine WN.op prg (by simp) (by simp; rfl) (by simp) ?_
          apply WN.join (t := 68) 4 64
          · first | rfl | (simp; rfl)
          · intro hg64
            refine WN.op prg (by simp) (by simp; rfl) (by simp) ?_
            refine WN.op prg (by simp) (by simp; rfl) (by first | (simp; done) | (simp; omega)) ?_
            refine WN.op prg (by simp) (by simp; rfl) (by simp) ?_
            refine WN.op prg (by simp) (by simp; rfl) (by simp) ?_
            exact WN.keep [68, 1, 2, 70, 71, 72, 73, 74, 75, 76, 77, 78, 79] rfl
          · intro hg64
            refine WN.skip prg (by simp) ?_
            refine WN.skip prg (by simp) ?_
            refine WN.skip prg (by simp) ?_
            refine WN.op prg (by simp) (by simp; rfl) (by simp) ?_
            exact WN.keep [68, 1, 2, 70, 71, 72, 73, 74, 75, 76, 77, 78, 79] rfl
          refine WN.op prg (by simp) (by simp; rfl) (by simp) ?_
          apply WN.join (t := 80) 11 69
          · first | rfl | (simp; rfl)
          · intro hg69
            refine WN.op prg (by simp) (by simp; rfl) (by simp) ?_
            refine WN.op prg (by simp) (by simp; rfl) (by first | (simp; done) | (simp; omega)) ?_
            refine WN.op prg (by simp) (by simp; rfl) (by simp) ?_
            refine WN.op prg (by simp) (by simp; rfl) (by simp) ?_
            refine WN.op prg (by simp) (by simp; rfl) (by simp) ?_
            refine WN.op prg (by simp) (by simp; rfl) (by simp) ?_
            refine WN.op prg (by simp) (by simp; rfl) (by simp) ?_
            refine WN.op prg (by simp) (by simp; rfl) (by simp) ?_
            refine WN.op prg (by simp) (by simp; rfl) (by simp) ?_
            refine WN.op prg (by simp) (by simp; rfl) (by simp) ?_
            refine WN.op prg (by simp) (by simp; rfl) (by simp) ?_
            exact WN.keep [80] rfl
          · intro hg69
            refine WN.skip prg (by simp) ?_
            refine WN.skip prg (by simp) ?_
            refine WN.skip prg (by simp) ?_
            refine WN.skip prg (by simp) ?_
            refine WN.skip prg (by simp) ?_
            refine WN.skip prg (by simp) ?_
            refine WN.skip prg (by simp) ?_
            refine WN.skip prg (by simp) ?_
            refine WN.skip prg (by simp) ?_
            refine WN.skip prg (by simp) ?_
            refine WN.op prg (by simp) (by simp; rfl) (by simp) ?_
            exact WN.keep [80] rfl
          refine WN.op prg (by simp) (by simp; rfl) (by simp) ?_
          refine WN.keep [4] ?_
          refine WP.ret (DoneQ.ret [] (by simp; rfl) (by simp; rfl) ?_)
          have hk2 : r.cells.length = k := by omega
          subst hk2
          rw [List.take_length] at hall hnd
          refine ⟨rfl, ?_⟩
          simp [ruleOk_eq h2 h4 hall hnd, hw2, hw3, hw4]
          rw [Bool.eq_iff_iff]
          unfold kindOk
          repeat' split
          all_goals first | omega | (simp; done) | (simp; omega)
        · try simp at hb
          refine WP.seq ?_
          refine WP.regN prg (by kernel_rfl) ?_ -- region 16
          refine WN.op prg (by simp) (by simp; rfl) (by simp) ?_
          refine WN.op prg (by simp) (by simp; rfl) (by simp) ?_
          refine WN.keep [1, 2, 7, 41, 81] ?_
          refine WP.cond (by first | rfl | (simp; rfl)) (fun hb => ?_) (fun hb => ?_)
          · try simp at hb
            refine WP.seq ?_
            refine WP.regN prg (by kernel_rfl) ?_ -- region 17
            refine WN.op prg (by simp) (by simp; rfl) (by simp) ?_
            refine WN.op prg (by simp) (by simp; rfl) (by simp) ?_
            refine WN.op prg (by simp) (by simp; rfl) (by simp) ?_
            apply WN.join (t := 89) 4 85
            · first | rfl | (simp; rfl)
            · intro hg85
              refine WN.op prg (by simp) (by simp; rfl) (by simp) ?_
              refine WN.op prg (by simp) (by simp; rfl) (by first | (simp; done) | (simp; omega)) ?_
              refine WN.op prg (by simp) (by simp; rfl) (by simp) ?_
              refine WN.op prg (by simp) (by simp; rfl) (by simp) ?_
              exact WN.keep [89] rfl
            · intro hg85
              refine WN.skip prg (by simp) ?_
              refine WN.skip prg (by simp) ?_
              refine WN.skip prg (by simp) ?_
              refine WN.op prg (by simp) (by simp; rfl) (by simp) ?_
              exact WN.keep [89] rfl
            refine WN.op prg (by simp) (by simp; rfl) (by simp) ?_
            refine WN.keep [4] ?_
            refine WP.ret (DoneQ.ret [] (by simp; rfl) (by simp; rfl) ?_)
            have hk2 : r.cells.length = k := by omega
            subst hk2
            rw [List.take_length] at hall hnd
            refine ⟨rfl, ?_⟩
            simp [ruleOk_eq h2 h4 hall hnd, hw2, hw3, hw4]
            rw [Bool.eq_iff_iff]
            unfold kindOk
            repeat' split
            all_goals first | omega | (simp; done) | (simp; omega)
          · try simp at hb
            refine WP.seq ?_
            refine WP.regN prg (by kernel_rfl) ?_ -- region 18
            refine WN.op prg (by simp) (by simp; rfl) (by simp) ?_
            refine WN.op prg (by simp) (by simp; rfl) (by simp) ?_
            refine WN.keep [1, 2, 7, 90] ?_
            refine WP.cond (by first | rfl | (simp; rfl)) (fun hb => ?_) (fun hb => ?_)
            · try simp at hb
              refine WP.seq ?_
              refine WP.regN prg (by kernel_rfl) ?_ -- region 19
              refine WN.op prg (by simp) (by simp; rfl) (by simp) ?_
              refine WN.op prg (by simp) (by simp; rfl) (by simp) ?_
              refine WN.op prg (by simp) (by simp; rfl) (by simp) ?_
              apply WN.join (t := 98) 4 94
              · first | rfl | (simp; rfl)
              · intro hg94
                refine WN.op prg (by simp) (by simp; rfl) (by simp) ?_
                refine WN.op prg (by simp) (by simp; rfl) (by first | (simp; done) | (simp; omega)) ?_
                refine WN.op prg (by simp) (by simp; rfl) (by simp) ?_
                refine WN.op prg (by simp) (by simp; rfl) (by simp) ?_
                exact WN.keep [98, 1, 2, 100, 101, 102, 103] rfl
              · intro hg94
                refine WN.skip prg (by simp) ?_
                refine WN.skip prg (by simp) ?_
                refine WN.skip prg (by simp) ?_
                refine WN.op prg (by simp) (by simp; rfl) (by simp) ?_
                exact WN.keep [98, 1, 2, 100, 101, 102, 103] rfl
              refine WN.op prg (by simp) (by simp; rfl) (by simp) ?_
              apply WN.join (t := 104) 5 99
              · first | rfl | (simp; rfl)
              · intro hg99
                refine WN.op prg (by simp) (by simp; rfl) (by simp) ?_
                refine WN.op prg (by simp) (by simp; rfl) (by first | (simp; done) | (simp; omega)) ?_
                refine WN.op prg (by simp) (by simp; rfl) (by simp) ?_
                refine WN.op prg (by simp) (by simp; rfl) (by simp) ?_
                refine WN.op prg (by simp) (by simp; rfl) (by simp) ?_
                exact WN.keep [104] rfl
              · intro hg99
                refine WN.skip prg (by simp) ?_
                refine WN.skip prg (by simp) ?_
                refine WN.skip prg (by simp) ?_
                refine WN.skip prg (by simp) ?_
                refine WN.op prg (by simp) (by simp; rfl) (by simp) ?_
                exact WN.keep [104] rfl
              refine WN.op prg (by simp) (by simp; rfl) (by simp) ?_
              refine WN.keep [4] ?_
              refine WP.ret (DoneQ.ret [] (by simp; rfl) (by simp; rfl) ?_)
              have hk2 : r.cells.length = k := by omega
              subst hk2
              rw [List.take_length] at hall hnd
              refine ⟨rfl, ?_⟩
              simp [ruleOk_eq h2 h4 hall hnd, hw2, hw3, hw4]
              rw [Bool.eq_iff_iff]
              unfold kindOk
              repeat' split
              all_goals first | omega | (simp; done) | (simp; omega)
            · try simp at hb
              refine WP.skip ?_
              refine WP.seq ?_
              refine WP.regN prg (by kernel_rfl) ?_ -- region 20
              refine WN.op prg (by simp) (by simp; rfl) (by simp) ?_
              refine WN.keep [4] ?_
              refine WP.ret (DoneQ.ret [] (by simp; rfl) (by simp; rfl) ?_)
              have hk2 : r.cells.length = k := by omega
              subst hk2
              rw [List.take_length] at hall hnd
              refine ⟨rfl, ?_⟩
              simp [ruleOk_eq h2 h4 hall hnd, hw2, hw3, hw4]
              rw [Bool.eq_iff_iff]
              unfold kindOk
              repeat' split
              all_goals first | omega | (simp; done) | (simp; omega)
def inB (B c : Int) : Bool := decide (0 ≤ c) && decide (c ≤ B)
theorem inB_eq {n : Int} (h2 : 2 ≤ n) (h4 : n ≤ 4) : inB (IntKind.i64.wrap (IntKind.i64.wrap (n * n) - 1)) = inGrid n := by
  funext c
  have := sq_bound h2 h4
  rw [wrap_id (n := n * n) (by omega) (by omega), wrap_id (by omega) (by omega)]
  unfold inB inGrid
  rw [Bool.eq_iff_iff]
  simp
  omega
theorem ruleOk_bad {r : Rule} {n : Int} (h : 2 ≤ n → n ≤ 4 → r.cells.all (inGrid n) = false ∨ ¬ r.cells.Nodup) : ruleOk r n = false := by
  unfold ruleOk
  by_cases h2 : 2 ≤ n
  · by_cases h4 : n ≤ 4
    · rcases h h2 h4 with h | h <;> simp [h]
    · simp [h4]
  · simp [h2]
theorem notin_take {l : List Int} {k : Nat} {x : Int} (hk : k ≤ l.length) (h : ∀ i, i < k → l[i]?.getD 0 ≠ x) : x ∉ l.take k := by
  intro hm
  obtain ⟨i, hi⟩ := List.getElem?_of_mem hm
  rw [List.getElem?_take] at hi
  split at hi
  · rename_i hlt
    exact h i hlt (by rw [hi]; rfl)
  · cases hi
theorem in_take {l : List Int} {j k : Nat} (hj : j < k) (hk : k ≤ l.length) : l[j]?.getD 0 ∈ l.take k := by
  rw [List.getElem?_eq_getElem (by omega)]
  exact List.mem_of_getElem? (i := j) (by rw [List.getElem?_take, if_pos hj, List.getElem?_eq_getElem (by omega)]; rfl)
theorem c_specRuleValid (r : Rule) (n : Int) (hl : r.cells.length ≤ 140737488355328) : CallsA Try.prog 122 [r.v false, .c (.int .i64 n)] [] fun x ho => ho = [] ∧ x = .v (.c (.bool (ruleOk r n))) := by
  unfold Rule.v
  refine CallsA.of (tv := tyOf Try.prog) (fn := Try.f122) prg.tv Try.func122 rfl rfl (by simp) ?_
  refine WP.seq ?_
  refine WP.regN prg (by kernel_rfl) ?_ -- region 0
  refine WN.op prg (by simp) (by simp; rfl) (by simp) ?_
  refine WN.op prg (by simp) (by simp; rfl) (by simp) ?_
  refine WN.keep [1, 2] ?_
  refine WP.seq ?_
  refine WP.seq ?_
  refine WP.regN prg (by kernel_rfl) ?_ -- region 1
  refine WN.op prg (by simp) (by simp; rfl) (by simp) ?_
  refine WN.keep [1, 2, 5] ?_
  refine WP.block ?_
  refine WP.loop (fun i s => ∃ k, i = r.cells.length - k ∧ k ≤ r.cells.length ∧ (r.cells.take k).all (inB (IntKind.i64.wrap (IntKind.i64.wrap (n * n) - 1))) = true ∧ (r.cells.take k).Nodup ∧ s = ⟨[(1, .v (.c (.int .i64 n))), (2, .v (.c (.ptr 16 0 0 0))), (5, .v (.c (.int .i64 (k : Nat))))], [(16, .box 0 [.int .i64 r.kind, .dsl false (.ints .i64 r.cells), .int .i64 r.value])]⟩) r.cells.length ⟨0, by simp⟩ ?_
  rintro _ _ ⟨k, rfl, hk, hall, hnd, rfl⟩
  refine WP.seq ?_
  refine WP.seq ?_
  refine WP.regN prg (by kernel_rfl) ?_ -- region 2
  refine WN.op prg (by simp) (by simp; rfl) (by simp) ?_
  refine WN.op prg (by simp) (by simp; rfl) (by simp) ?_
  refine WN.op prg (by simp) (by simp; rfl) (by first | (simp; done) | (simp; omega)) ?_
  refine WN.op prg (by simp) (by simp; rfl) (by simp) ?_
  refine WN.op prg (by simp) (by simp; rfl) (by simp) ?_
  refine WN.keep [1, 2, 5, 12] ?_
  refine WP.cond (by first | rfl | (simp; rfl)) (fun hb => ?_) (fun hb => ?_)
  · try simp at hb
    refine WP.skip ?_
    refine WP.seq ?_
    refine WP.block ?_
    refine WP.seq ?_
    refine WP.seq ?_
    refine WP.regN prg (by kernel_rfl) ?_ -- region 4
    refine WN.op prg (by simp) (by simp; rfl) (by simp) ?_
    refine WN.op prg (by simp) (by simp; rfl) (by first | (simp; done) | (simp; omega)) ?_
    refine WN.op prg (by simp) (by simp; rfl) (by simp) ?_
    refine WN.op prg (by simp) (by simp; rfl) (by first | (simp; done) | (simp; omega)) ?_
    refine WN.op prg (by simp) (by simp; rfl) (by first | (simp; done) | (simp; omega)) ?_
    refine WN.op prg (by simp) (by simp; rfl) (by simp) ?_
    refine WN.op prg (by simp) (by simp; rfl) (by simp) ?_
    refine WN.op prg (by simp) (by simp; rfl) (by simp) ?_
    refine WN.op prg (by simp) (by simp; rfl) (by simp) ?_
    refine WN.call prg [] [] (by simp) rfl (by simp; rfl) (by simp) (CallsA.at (by simp) (by simp) (c_l1In (r.cells[k]?.getD 0) 0 (IntKind.i64.wrap (IntKind.i64.wrap (n * n) - 1)))) ?_
    rintro _ _ ⟨rfl, rfl⟩
    refine ⟨_, by simp; rfl, ?_⟩
    refine WN.op prg (by simp) (by simp; rfl) (by simp) ?_
    refine WN.keep [1, 2, 5, 25] ?_
    refine WP.cond (by first | rfl | (simp; rfl)) (fun hb => ?_) (fun hb => ?_)
    · try simp at hb
      refine WP.seq ?_
      refine WP.regN prg (by kernel_rfl) ?_ -- region 5
      refine WN.op prg (by simp) (by simp; rfl) (by simp) ?_
      refine WN.keep [4] ?_
      refine WP.ret (DoneQ.ret [] (by simp; rfl) (by simp; rfl) ?_)
      rename_i hkl
      have : ruleOk r n = false := ruleOk_bad fun h2 h4 => .inl (all_fail (p := inGrid n) hkl (by rw [← inB_eq h2 h4]; simp [inB]; omega))
      exact ⟨rfl, by simp [this]⟩
    · try simp at hb
      refine WP.skip ?_
      refine WP.seq ?_
      refine WP.regN prg (by kernel_rfl) ?_ -- region 6
      refine WN.op prg (by simp) (by simp; rfl) (by simp) ?_
      refine WN.keep [1, 2, 5, 6] ?_
      refine WP.block ?_
      rename_i hkl
      have hin := hb
      refine WP.loop (fun i s => ∃ j, i = k - j ∧ j ≤ k ∧ (∀ q, q < j → r.cells[q]?.getD 0 ≠ r.cells[k]?.getD 0) ∧ s = ⟨[(1, .v (.c (.int .i64 n))), (2, .v (.c (.ptr 16 0 0 0))), (5, .v (.c (.int .i64 (k : Nat)))), (6, .v (.c (.int .i64 (j : Nat))))], [(16, .box 0 [.int .i64 r.kind, .dsl false (.ints .i64 r.cells), .int .i64 r.value])]⟩) k ⟨0, by simp⟩ ?_
      rintro _ _ ⟨j, rfl, hj, hno, rfl⟩
      refine WP.seq ?_
      refine WP.seq ?_
      refine WP.regN prg (by kernel_rfl) ?_ -- region 7
      refine WN.op prg (by simp) (by simp; rfl) (by simp) ?_
      refine WN.op prg (by simp) (by simp; rfl) (by simp) ?_
      refine WN.op prg (by simp) (by simp; rfl) (by simp) ?_
      refine WN.keep [1, 2, 5, 6, 28] ?_
      refine WP.cond (by first | rfl | (simp; rfl)) (fun hb => ?_) (fun hb => ?_)
      · try simp at hb
        refine WP.skip ?_
        refine WP.seq ?_
        refine WP.block ?_
        refine WP.seq ?_
        refine WP.reg prg (by kernel_rfl) ?_ -- region 9 DRAWS
        refine WS.d (by simp) (by simp; rfl) (by simp) (by kernel_rfl) ?_
        refine WS.d (by simp) (by simp; rfl) (by first | (simp; done) | (simp; omega)) (by kernel_rfl) ?_
        refine WS.d (by simp) (by simp; rfl) (by simp) (by kernel_rfl) ?_
        refine WS.d (by simp) (by simp; rfl) (by first | (simp; done) | (simp; omega)) (by kernel_rfl) ?_
        refine WS.d (by simp) (by simp; rfl) (by first | (simp; done) | (simp; omega)) (by kernel_rfl) ?_
        refine WS.d (by simp) (by simp; rfl) (by simp) (by kernel_rfl) ?_
        refine WS.d (by simp) (by simp; rfl) (by first | (simp; done) | (simp; omega)) (by kernel_rfl) ?_
        refine WS.d (by simp) (by simp; rfl) (by simp) (by kernel_rfl) ?_
        refine WS.d (by simp) (by simp; rfl) (by first | (simp; done) | (simp; omega)) (by kernel_rfl) ?_
        refine WS.d (by simp) (by simp; rfl) (by first | (simp; done) | (simp; omega)) (by kernel_rfl) ?_
        refine WS.d (by simp) (by simp; rfl) (by simp) (by kernel_rfl) ?_
        refine WS.keep [1, 2, 5, 6, 41] ?_
        refine WP.cond (by first | rfl | (simp; rfl)) (fun hb => ?_) (fun hb => ?_)
        · try simp at hb
          refine WP.seq ?_
          refine WP.regN prg (by kernel_rfl) ?_ -- region 10
          refine WN.op prg (by simp) (by simp; rfl) (by simp) ?_
          refine WN.keep [4] ?_
          refine WP.ret (DoneQ.ret [] (by simp; rfl) (by simp; rfl) ?_)
          rename_i hjk
          have : ruleOk r n = false := ruleOk_bad fun h2 h4 => .inr (nodup_fail hkl (hb ▸ in_take hjk (by omega)))
          exact ⟨rfl, by simp [this]⟩
        · try simp at hb
          refine WP.skip ?_
          refine WP.regN prg (by kernel_rfl) ?_ -- region 8
          refine WN.op prg (by simp) (by simp; rfl) (by simp) ?_
          refine WN.op prg (by simp) (by simp; rfl) (by simp) ?_
          refine WN.op prg (by simp) (by simp; rfl) (by simp) ?_
          refine WN.keep [1, 2, 5, 6] ?_
          exact ⟨k - (j + 1), by omega, j + 1, rfl, by omega, fun q hq => by
            by_cases h : q = j
            · subst h; exact hb
            · exact hno q (by omega), by simp [wrap_id (n := (j : Int) + 1) (by omega) (by omega)]⟩
      · try simp at hb
        refine WP.exit ?_
        refine WP.regN prg (by kernel_rfl) ?_ -- region 3
        refine WN.op prg (by simp) (by simp; rfl) (by simp) ?_
        refine WN.op prg (by simp) (by simp; rfl) (by simp) ?_
        refine WN.op prg (by simp) (by simp; rfl) (by simp) ?_
        refine WN.keep [1, 2, 5] ?_
        have hjk : j = k := by omega
        subst hjk
        exact ⟨r.cells.length - (j + 1), by omega, j + 1, rfl, by omega, all_step hall (by simp [inB]; omega), nodup_step hnd hkl (notin_take (by omega) hno), by simp [wrap_id (n := (j : Int) + 1) (by omega) (by omega)]⟩
  · try simp at hb
    refine WP.exit ?_
    refine WP.seq ?_
    refine WP.regN prg (by kernel_rfl) ?_ -- region 11
    refine WN.op prg (by simp) (by simp; rfl) (by simp) ?_
    refine WN.op prg (by simp) (by simp; rfl) (by first | (simp; done) | (simp; omega)) ?_
    refine WN.op prg (by simp) (by simp; rfl) (by simp) ?_
    refine WN.op prg (by simp) (by simp; rfl) (by simp) ?_
    refine WN.keep [1, 2, 7] ?_
    refine WP.seq ?_
    refine WP.seq ?_
    refine WP.regN prg (by kernel_rfl) ?_ -- region 12
    refine WN.op prg (by simp) (by simp; rfl) (by simp) ?_
    refine WN.call prg [] [] (by simp) rfl (by simp; rfl) (by simp) (CallsA.at (by simp) (by simp) (c_l1In n 2 4)) ?_
    rintro _ _ ⟨rfl, rfl⟩
    refine ⟨_, by simp; rfl, ?_⟩
    refine WN.op prg (by simp) (by simp; rfl) (by simp) ?_
    refine WN.op prg (by simp) (by simp; rfl) (by simp) ?_
    apply WN.join (t := 51) 3 48
    · first | rfl | (simp; rfl)
    · intro hg48
      refine WN.skip prg (by simp) ?_
      refine WN.skip prg (by simp) ?_
      refine WN.op prg (by simp) (by simp; rfl) (by simp) ?_
      exact WN.keep [51, 1, 2, 7] rfl
    · intro hg48
      refine WN.op prg (by simp) (by simp; rfl) (by simp) ?_
      refine WN.op prg (by simp) (by simp; rfl) (by simp) ?_
      refine WN.op prg (by simp) (by simp; rfl) (by simp) ?_
      exact WN.keep [51, 1, 2, 7] rfl
    refine WN.keep [1, 2, 7, 51] ?_
    refine WP.cond (by first | rfl | (simp; rfl)) (fun hb => ?_) (fun hb => ?_)
    · try simp at hb
      refine WP.seq ?_
      refine WP.regN prg (by kernel_rfl) ?_ -- region 13
      refine WN.op prg (by simp) (by simp; rfl) (by simp) ?_
      refine WN.keep [4] ?_
      refine WP.ret (DoneQ.ret [] (by simp; rfl) (by simp; rfl) ?_)
      have : ruleOk r n = false := by
        unfold ruleOk kindOk
        rw [Bool.eq_false_iff]
        simp
        intro h2 h4 _ _
        repeat' split
        all_goals (simp; omega)
      exact ⟨rfl, by simp [this]⟩
    · try simp at hb
      refine WP.skip ?_
      refine WP.seq ?_
      refine WP.seq ?_
      refine WP.regN prg (by kernel_rfl) ?_ -- region 14
      refine WN.op prg (by simp) (by simp; rfl) (by simp) ?_
      refine WN.op prg (by simp) (by simp; rfl) (by first | (simp; done) | (simp; omega)) ?_
      refine WN.keep [1, 2, 7, 53] ?_
      refine WP.block ?_
      refine WP.seq ?_
      refine WP.regN prg (by kernel_rfl) ?_ -- region 15
      refine WN.op prg (by simp) (by simp; rfl) (by simp) ?_
      refine WN.op prg (by simp) (by simp; rfl) (by simp) ?_
      refine WN.keep [1, 2, 7, 53, 54] ?_
      refine WP.cond (by first | rfl | (simp; rfl)) (fun hb => ?_) (fun hb => ?_)
      · try simp at hb
        refine WP.seq ?_
        refine WP.regN prg (by kernel_rfl) ?_ -- region 16
        refine WN.op prg (by simp) (by simp; rfl) (by simp) ?_
        refine WN.op prg (by simp) (by simp; rfl) (by simp) ?_
        refine WN.op prg (by simp) (by simp; rfl) (by simp) ?_
        apply WN.join (t := 62) 4 58
        · first | rfl | (simp; rfl)
        · intro hg58
          refine WN.op prg (by simp) (by simp; rfl) (by simp) ?_
          refine WN.op prg (by simp) (by simp; rfl) (by first | (simp; done) | (simp; omega)) ?_
          refine WN.op prg (by simp) (by simp; rfl) (by simp) ?_
          refine WN.op prg (by simp) (by simp; rfl) (by simp) ?_
          exact WN.keep [62] rfl
        · intro hg58
          refine WN.skip prg (by simp) ?_
          refine WN.skip prg (by simp) ?_
          refine WN.skip prg (by simp) ?_
          refine WN.op prg (by simp) (by simp; rfl) (by simp) ?_
          exact WN.keep [62] rfl
        refine WN.op prg (by simp) (by simp; rfl) (by simp) ?_
        refine WN.keep [4] ?_
        refine WP.ret (DoneQ.ret [] (by simp; rfl) (by simp; rfl) ?_)
        have hk2 : r.cells.length = k := by omega
        subst hk2
        rw [List.take_length] at hall hnd
        have hsz : (2 ≤ n ∧ n ≤ 4) ∧ r.cells.length ≤ 4 := by omega
        obtain ⟨⟨h2, h4⟩, hlen4⟩ := hsz
        obtain ⟨hw2, hw3, hw4⟩ := pow_bound h2 h4
        have hw1 : IntKind.i64.wrap (n - 1) = n - 1 := wrap_id (by omega) (by omega)
        rw [inB_eq h2 h4] at hall
        refine ⟨rfl, ?_⟩
        simp [ruleOk_eq h2 h4 hall hnd, hw1, hw2, hw3, hw4]
        rw [Bool.eq_iff_iff]
        unfold kindOk
        repeat' split
        all_goals first | omega | (simp; done) | (simp; omega)
      · try simp at hb
        refine WP.seq ?_
        refine WP.seq ?_
        refine WP.regN prg (by kernel_rfl) ?_ -- region 17
        refine WN.op prg (by simp) (by simp; rfl) (by simp) ?_
        refine WN.op prg (by simp) (by simp; rfl) (by simp) ?_
        refine WN.keep [1, 2, 7, 53, 63] ?_
        apply WP.join (t := 63)
        · first | rfl | (simp; rfl)
        · intro hb
          exact WP.keep [63, 1, 2, 7, 53] (WP.skip rfl)
        · intro hb
          refine WP.regN prg (by kernel_rfl) ?_ -- region 18
          refine WN.op prg (by simp) (by simp; rfl) (by simp) ?_
          refine WN.op prg (by simp) (by simp; rfl) (by simp) ?_
          exact WN.keep [63, 1, 2, 7, 53] rfl
        refine WP.cond (by first | rfl | (simp; rfl)) (fun hb => ?_) (fun hb => ?_)
        · try simp at hb
          refine WP.seq ?_
          refine WP.regN prg (by kernel_rfl) ?_ -- region 19
          refine WN.op prg (by simp) (by simp; rfl) (by simp) ?_
          refine WN.op prg (by simp) (by simp; rfl) (by simp) ?_
          refine WN.op prg (by simp) (by simp; rfl) (by simp) ?_
          apply WN.join (t := 79) 11 68
          · first | rfl | (simp; rfl)
          · intro hg68
            refine WN.op prg (by simp) (by simp; rfl) (by simp) ?_
            refine WN.op prg (by simp) (by simp; rfl) (by first | (simp; done) | (simp; omega)) ?_
            refine WN.op prg (by simp) (by simp; rfl) (by simp) ?_
            refine WN.op prg (by simp) (by simp; rfl) (by simp) ?_
            refine WN.op prg (by simp) (by simp; rfl) (by simp) ?_
            refine WN.op prg (by simp) (by simp; rfl) (by simp) ?_
            refine WN.op prg (by simp) (by simp; rfl) (by simp) ?_
            refine WN.op prg (by simp) (by simp; rfl) (by simp) ?_
            refine WN.op prg (by simp) (by simp; rfl) (by simp) ?_
            refine WN.call prg [] [] (by simp) rfl (by simp; rfl) (by simp) (CallsA.at (by simp) (by simp) (c_l1In r.value 1 (IntKind.i64.wrap (IntKind.i64.wrap (IntKind.i64.wrap (n * n) * n) * n)))) ?_
            rintro _ _ ⟨rfl, rfl⟩
            refine ⟨_, by simp; rfl, ?_⟩
            refine WN.op prg (by simp) (by simp; rfl) (by simp) ?_
            exact WN.keep [79] rfl
          · intro hg68
            refine WN.skip prg (by simp) ?_
            refine WN.skip prg (by simp) ?_
            refine WN.skip prg (by simp) ?_
            refine WN.skip prg (by simp) ?_
            refine WN.skip prg (by simp) ?_
            refine WN.skip prg (by simp) ?_
            refine WN.skip prg (by simp) ?_
            refine WN.skip prg (by simp) ?_
            refine WN.skip prg (by simp) ?_
            refine WN.skip prg (by simp) ?_
            refine WN.op prg (by simp) (by simp; rfl) (by simp) ?_
            exact WN.keep [79] rfl
          refine WN.op prg (by simp) (by simp; rfl) (by simp) ?_
          refine WN.keep [4] ?_
          refine WP.ret (DoneQ.ret [] (by simp; rfl) (by simp; rfl) ?_)
          have hk2 : r.cells.length = k := by omega
          subst hk2
          rw [List.take_length] at hall hnd
          have hsz : (2 ≤ n ∧ n ≤ 4) ∧ r.cells.length ≤ 4 := by omega
          obtain ⟨⟨h2, h4⟩, hlen4⟩ := hsz
          obtain ⟨hw2, hw3, hw4⟩ := pow_bound h2 h4
          have hw1 : IntKind.i64.wrap (n - 1) = n - 1 := wrap_id (by omega) (by omega)
          rw [inB_eq h2 h4] at hall
          refine ⟨rfl, ?_⟩
          simp [ruleOk_eq h2 h4 hall hnd, hw1, hw2, hw3, hw4]
          rw [Bool.eq_iff_iff]
          unfold kindOk
          repeat' split
          all_goals first | omega | (simp; done) | (simp; omega)
        · try simp at hb
          refine WP.seq ?_
          refine WP.regN prg (by kernel_rfl) ?_ -- region 20
          refine WN.op prg (by simp) (by simp; rfl) (by simp) ?_
          refine WN.op prg (by simp) (by simp; rfl) (by simp) ?_
          refine WN.keep [1, 2, 7, 53, 80] ?_
          refine WP.cond (by first | rfl | (simp; rfl)) (fun hb => ?_) (fun hb => ?_)
          · try simp at hb
            refine WP.seq ?_
            refine WP.regN prg (by kernel_rfl) ?_ -- region 21
            refine WN.op prg (by simp) (by simp; rfl) (by simp) ?_
            refine WN.op prg (by simp) (by simp; rfl) (by simp) ?_
            refine WN.op prg (by simp) (by simp; rfl) (by simp) ?_
            apply WN.join (t := 88) 4 84
            · first | rfl | (simp; rfl)
            · intro hg84
              refine WN.op prg (by simp) (by simp; rfl) (by simp) ?_
              refine WN.op prg (by simp) (by simp; rfl) (by first | (simp; done) | (simp; omega)) ?_
              refine WN.op prg (by simp) (by simp; rfl) (by simp) ?_
              refine WN.op prg (by simp) (by simp; rfl) (by simp) ?_
              exact WN.keep [88] rfl
            · intro hg84
              refine WN.skip prg (by simp) ?_
              refine WN.skip prg (by simp) ?_
              refine WN.skip prg (by simp) ?_
              refine WN.op prg (by simp) (by simp; rfl) (by simp) ?_
              exact WN.keep [88] rfl
            refine WN.op prg (by simp) (by simp; rfl) (by simp) ?_
            refine WN.keep [4] ?_
            refine WP.ret (DoneQ.ret [] (by simp; rfl) (by simp; rfl) ?_)
            have hk2 : r.cells.length = k := by omega
            subst hk2
            rw [List.take_length] at hall hnd
            have hsz : (2 ≤ n ∧ n ≤ 4) ∧ r.cells.length ≤ 4 := by omega
            obtain ⟨⟨h2, h4⟩, hlen4⟩ := hsz
            obtain ⟨hw2, hw3, hw4⟩ := pow_bound h2 h4
            have hw1 : IntKind.i64.wrap (n - 1) = n - 1 := wrap_id (by omega) (by omega)
            rw [inB_eq h2 h4] at hall
            refine ⟨rfl, ?_⟩
            simp [ruleOk_eq h2 h4 hall hnd, hw1, hw2, hw3, hw4]
            rw [Bool.eq_iff_iff]
            unfold kindOk
            repeat' split
            all_goals first | omega | (simp; done) | (simp; omega)
          · try simp at hb
            refine WP.seq ?_
            refine WP.regN prg (by kernel_rfl) ?_ -- region 22
            refine WN.op prg (by simp) (by simp; rfl) (by simp) ?_
            refine WN.op prg (by simp) (by simp; rfl) (by simp) ?_
            refine WN.keep [1, 2, 7, 89] ?_
            refine WP.cond (by first | rfl | (simp; rfl)) (fun hb => ?_) (fun hb => ?_)
            · try simp at hb
              refine WP.seq ?_
              refine WP.regN prg (by kernel_rfl) ?_ -- region 23
              refine WN.op prg (by simp) (by simp; rfl) (by simp) ?_
              refine WN.op prg (by simp) (by simp; rfl) (by simp) ?_
              refine WN.op prg (by simp) (by simp; rfl) (by simp) ?_
              apply WN.join (t := 99) 6 93
              · first | rfl | (simp; rfl)
              · intro hg93
                refine WN.op prg (by simp) (by simp; rfl) (by simp) ?_
                refine WN.op prg (by simp) (by simp; rfl) (by first | (simp; done) | (simp; omega)) ?_
                refine WN.op prg (by simp) (by simp; rfl) (by simp) ?_
                refine WN.op prg (by simp) (by simp; rfl) (by simp) ?_
                refine WN.call prg [] [] (by simp) rfl (by simp; rfl) (by simp) (CallsA.at (by simp) (by simp) (c_l1In r.value 0 (IntKind.i64.wrap (n - 1)))) ?_
                rintro _ _ ⟨rfl, rfl⟩
                refine ⟨_, by simp; rfl, ?_⟩
                refine WN.op prg (by simp) (by simp; rfl) (by simp) ?_
                exact WN.keep [99] rfl
              · intro hg93
                refine WN.skip prg (by simp) ?_
                refine WN.skip prg (by simp) ?_
                refine WN.skip prg (by simp) ?_
                refine WN.skip prg (by simp) ?_
                refine WN.skip prg (by simp) ?_
                refine WN.op prg (by simp) (by simp; rfl) (by simp) ?_
                exact WN.keep [99] rfl
              refine WN.op prg (by simp) (by simp; rfl) (by simp) ?_
              refine WN.keep [4] ?_
              refine WP.ret (DoneQ.ret [] (by simp; rfl) (by simp; rfl) ?_)
              have hk2 : r.cells.length = k := by omega
              subst hk2
              rw [List.take_length] at hall hnd
              have hsz : (2 ≤ n ∧ n ≤ 4) ∧ r.cells.length ≤ 4 := by omega
              obtain ⟨⟨h2, h4⟩, hlen4⟩ := hsz
              obtain ⟨hw2, hw3, hw4⟩ := pow_bound h2 h4
              have hw1 : IntKind.i64.wrap (n - 1) = n - 1 := wrap_id (by omega) (by omega)
              rw [inB_eq h2 h4] at hall
              refine ⟨rfl, ?_⟩
              simp [ruleOk_eq h2 h4 hall hnd, hw1, hw2, hw3, hw4]
              rw [Bool.eq_iff_iff]
              unfold kindOk
              repeat' split
              all_goals first | omega | (simp; done) | (simp; omega)
            · try simp at hb
              refine WP.skip ?_
              refine WP.seq ?_
              refine WP.regN prg (by kernel_rfl) ?_ -- region 24
              refine WN.op prg (by simp) (by simp; rfl) (by simp) ?_
              refine WN.keep [4] ?_
              refine WP.ret (DoneQ.ret [] (by simp; rfl) (by simp; rfl) ?_)
              have hk2 : r.cells.length = k := by omega
              subst hk2
              rw [List.take_length] at hall hnd
              have hsz : (2 ≤ n ∧ n ≤ 4) ∧ r.cells.length ≤ 4 := by omega
              obtain ⟨⟨h2, h4⟩, hlen4⟩ := hsz
              obtain ⟨hw2, hw3, hw4⟩ := pow_bound h2 h4
              have hw1 : IntKind.i64.wrap (n - 1) = n - 1 := wrap_id (by omega) (by omega)
              rw [inB_eq h2 h4] at hall
              refine ⟨rfl, ?_⟩
              simp [ruleOk_eq h2 h4 hall hnd, hw1, hw2, hw3, hw4]
              rw [Bool.eq_iff_iff]
              unfold kindOk
              repeat' split
              all_goals first | omega | (simp; done) | (simp; omega)
end Go.Proofs.Ytaicenafkjbnoaa

