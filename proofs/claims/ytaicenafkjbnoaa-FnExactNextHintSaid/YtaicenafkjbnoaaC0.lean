/- Contracts: numbers, lists, grids. -/
import Derived.Test.YtaicenafkjbnoaaAmZd
import Derived.Test.YtaicenafkjbnoaaTy
import Derived.Test.YtaicenafkjbnoaaPlB
set_option linter.unusedVariables false
set_option linter.unusedSimpArgs false
namespace Go.Proofs.Ytaicenafkjbnoaa
open Go.AM
set_option maxRecDepth 100000

theorem c_l1In (x a b : Int) : CallsA Try.prog 78 [.c (.int .i64 x), .c (.int .i64 a), .c (.int .i64 b)] [] fun r ho => ho = [] ∧ r = .v (.c (.bool (decide (a ≤ x) && decide (x ≤ b)))) := by
  refine CallsA.of (tv := tyOf Try.prog) (fn := Try.f78) prg.tv Try.func78 rfl rfl (by simp) ?_
  refine WP.seq ?_
  refine WP.regN prg (by kernel_rfl) ?_ -- region 0
  refine WN.op prg (by simp) (by simp; rfl) (by simp) ?_
  refine WN.keep [0, 1, 2] ?_
  refine WP.seq ?_
  refine WP.regN prg (by kernel_rfl) ?_ -- region 1
  refine WN.op prg (by simp) (by simp; rfl) (by simp) ?_
  refine WN.op prg (by simp) (by simp; rfl) (by simp) ?_
  refine WN.op prg (by simp) (by simp; rfl) (by simp) ?_
  refine WN.op prg (by simp) (by simp; rfl) (by simp) ?_
  apply WN.join (t := 14) 4 10
  · first | rfl | (simp; rfl)
  · intro hg10
    refine WN.op prg (by simp) (by simp; rfl) (by simp) ?_
    refine WN.op prg (by simp) (by simp; rfl) (by simp) ?_
    refine WN.op prg (by simp) (by simp; rfl) (by simp) ?_
    refine WN.op prg (by simp) (by simp; rfl) (by simp) ?_
    exact WN.keep [14] rfl
  · intro hg10
    refine WN.skip prg (by simp) ?_
    refine WN.skip prg (by simp) ?_
    refine WN.skip prg (by simp) ?_
    refine WN.op prg (by simp) (by simp; rfl) (by simp) ?_
    exact WN.keep [14] rfl
  refine WN.op prg (by simp) (by simp; rfl) (by simp) ?_
  refine WN.keep [6] ?_
  refine WP.ret (DoneQ.ret [] (by simp; rfl) (by simp; rfl) ?_)
  exact ⟨rfl, by simp⟩
theorem c_sizeOk (x : Int) : CallsA Try.prog 120 [.c (.int .i64 x)] [] fun r ho => ho = [] ∧ r = .v (.c (.bool (decide (2 ≤ x) && decide (x ≤ 4)))) := by
  refine CallsA.of (tv := tyOf Try.prog) (fn := Try.f120) prg.tv Try.func120 rfl rfl (by simp) ?_
  refine WP.seq ?_
  refine WP.regN prg (by kernel_rfl) ?_ -- region 0
  refine WN.op prg (by simp) (by simp; rfl) (by simp) ?_
  refine WN.keep [0] ?_
  refine WP.seq ?_
  refine WP.regN prg (by kernel_rfl) ?_ -- region 1
  refine WN.op prg (by simp) (by simp; rfl) (by simp) ?_
  refine WN.op prg (by simp) (by simp; rfl) (by simp) ?_
  refine WN.op prg (by simp) (by simp; rfl) (by simp) ?_
  apply WN.join (t := 8) 3 5
  · first | rfl | (simp; rfl)
  · intro hg5
    refine WN.op prg (by simp) (by simp; rfl) (by simp) ?_
    refine WN.op prg (by simp) (by simp; rfl) (by simp) ?_
    refine WN.op prg (by simp) (by simp; rfl) (by simp) ?_
    exact WN.keep [8] rfl
  · intro hg5
    refine WN.skip prg (by simp) ?_
    refine WN.skip prg (by simp) ?_
    refine WN.op prg (by simp) (by simp; rfl) (by simp) ?_
    exact WN.keep [8] rfl
  refine WN.op prg (by simp) (by simp; rfl) (by simp) ?_
  refine WN.keep [2] ?_
  refine WP.ret (DoneQ.ret [] (by simp; rfl) (by simp; rfl) ?_)
  exact ⟨rfl, by simp⟩
def indexI (l : List Int) (x : Int) : Int := if x ∈ l then (l.idxOf x : Nat) else -1
theorem indexI_at {l : List Int} {x : Int} {k : Nat} (hk : k < l.length) (h : ∀ j, j < k → l[j]? ≠ some x) (he : l[k]? = some x) : indexI l x = k := by
  induction l generalizing k with
  | nil => simp at hk
  | cons a r ih =>
    cases k with
    | zero =>
      simp at he
      subst he
      simp [indexI]
    | succ k =>
      have h0 : a ≠ x := by simpa using h 0 (by omega)
      have := ih (k := k) (by simpa using hk) (fun j hj => by simpa using h (j + 1) (by omega)) (by simpa using he)
      have hm : x ∈ r := List.mem_of_getElem? (by simpa using he)
      simp only [indexI, hm, if_true] at this
      have hne : (a == x) = false := by simp [h0]
      simp [indexI, hm, List.idxOf_cons, hne]
      omega
theorem indexI_no {l : List Int} {x : Int} (h : ∀ j, j < l.length → l[j]? ≠ some x) : indexI l x = -1 := by
  unfold indexI
  rw [if_neg]
  intro hm
  obtain ⟨j, hj⟩ := List.getElem?_of_mem hm
  exact h j (List.getElem?_eq_some_iff.1 hj).1 hj
theorem indexI_nonneg (l : List Int) (x : Int) : decide (0 ≤ indexI l x) = decide (x ∈ l) := by
  unfold indexI
  split <;> simp [*]

theorem c_index (l : List Int) (x : Int) (hl : l.length ≤ 140737488355328) : CallsA Try.prog 121 [.c (.dsl false (.ints .i64 l)), .c (.int .i64 x)] [] fun r ho => ho = [] ∧ r = .v (.c (.int .i64 (indexI l x))) := by
  refine CallsA.of (tv := tyOf Try.prog) (fn := Try.f121) prg.tv Try.func121 rfl rfl (by simp) ?_
  refine WP.seq ?_
  refine WP.regN prg (by kernel_rfl) ?_ -- region 0
  refine WN.op prg (by simp) (by simp; rfl) (by simp) ?_
  refine WN.keep [0, 1] ?_
  refine WP.seq ?_
  refine WP.seq ?_
  refine WP.regN prg (by kernel_rfl) ?_ -- region 1
  refine WN.op prg (by simp) (by simp; rfl) (by simp) ?_
  refine WN.op prg (by simp) (by simp; rfl) (by simp) ?_
  refine WN.op prg (by simp) (by simp; rfl) (by simp) ?_
  refine WN.keep [0, 1, 7, 8] ?_
  refine WP.block ?_
  refine WP.loop (fun i s => ∃ k, i = l.length - k ∧ k ≤ l.length ∧ (∀ j, j < k → l[j]? ≠ some x) ∧ s = ⟨[(0, .v (.c (.dsl false (.ints .i64 l)))), (1, .v (.c (.int .i64 x))), (7, .v (.c (.int .i64 l.length))), (8, .v (.c (.int .i64 (k : Nat))))], []⟩) l.length ⟨0, by simp⟩ ?_
  rintro _ _ ⟨k, rfl, hk, hno, rfl⟩
  refine WP.seq ?_
  refine WP.regN prg (by kernel_rfl) ?_ -- region 2
  refine WN.op prg (by simp) (by simp; rfl) (by simp) ?_
  refine WN.keep [0, 1, 7, 8, 9] ?_
  refine WP.seq ?_
  refine WP.cond (by first | rfl | (simp; rfl)) (fun hb => ?_) (fun hb => ?_)
  · try simp at hb
    refine WP.skip ?_
    refine WP.seq ?_
    refine WP.block ?_
    refine WP.seq ?_
    refine WP.regN prg (by kernel_rfl) ?_ -- region 3
    refine WN.op prg (by simp) (by simp; rfl) (by simp) ?_
    refine WN.op prg (by simp) (by simp; rfl) (by simp) ?_
    refine WN.keep [0, 1, 5, 7, 8] ?_
    refine WP.seq ?_
    refine WP.regN prg (by kernel_rfl) ?_ -- region 4
    refine WN.op prg (by simp) (by simp; rfl) (by simp) ?_
    refine WN.op prg (by simp) (by simp; rfl) (by simp) ?_
    refine WN.op prg (by simp) (by simp; rfl) (by simp) ?_
    refine WN.op prg (by simp) (by simp; rfl) (by first | (simp; done) | (simp; omega)) ?_
    refine WN.op prg (by simp) (by simp; rfl) (by first | (simp; done) | (simp; omega)) ?_
    refine WN.op prg (by simp) (by simp; rfl) (by simp) ?_
    refine WN.keep [0, 1, 5, 7, 8, 16] ?_
    refine WP.cond (by first | rfl | (simp; rfl)) (fun hb => ?_) (fun hb => ?_)
    · try simp at hb
      refine WP.seq ?_
      refine WP.regN prg (by kernel_rfl) ?_ -- region 5
      refine WN.op prg (by simp) (by simp; rfl) (by simp) ?_
      refine WN.op prg (by simp) (by simp; rfl) (by simp) ?_
      refine WN.keep [4] ?_
      refine WP.ret (DoneQ.ret [] (by simp; rfl) (by simp; rfl) ?_)
      have hk' : l[k]? = some l[k] := List.getElem?_eq_getElem (by omega)
      exact ⟨rfl, by simp [indexI_at (by omega) hno (by rw [hk']; simp [hk'] at hb; simp [hb])]⟩
    · try simp at hb
      refine WP.skip ?_
      refine WP.regN prg (by kernel_rfl) ?_ -- region 6
      refine WN.op prg (by simp) (by simp; rfl) (by simp) ?_
      refine WN.op prg (by simp) (by simp; rfl) (by simp) ?_
      refine WN.keep [0, 1, 7, 8] ?_
      exact ⟨l.length - (k + 1), by omega, k + 1, rfl, by omega, fun j hj => by
        by_cases h : j = k
        · subst h
          intro h; simp [h] at hb
        · exact hno j (by omega), by simp [wrap_id (n := (k : Int) + 1) (by omega) (by omega)]⟩
  · try simp at hb
    refine WP.exit ?_
    refine WP.seq ?_
    refine WP.regN prg (by kernel_rfl) ?_ -- region 7
    refine WN.op prg (by simp) (by simp; rfl) (by simp) ?_
    refine WN.keep [4] ?_
    refine WP.ret (DoneQ.ret [] (by simp; rfl) (by simp; rfl) ?_)
    exact ⟨rfl, by simp [indexI_no fun j hj => hno j (by omega)]⟩
theorem c_contains (l : List Int) (x : Int) (hl : l.length ≤ 140737488355328) : CallsA Try.prog 75 [.c (.dsl false (.ints .i64 l)), .c (.int .i64 x)] [] fun r ho => ho = [] ∧ r = .v (.c (.bool (decide (x ∈ l)))) := by
  refine CallsA.of (tv := tyOf Try.prog) (fn := Try.f75) prg.tv Try.func75 rfl rfl (by simp) ?_
  refine WP.seq ?_
  refine WP.regN prg (by kernel_rfl) ?_ -- region 0
  refine WN.op prg (by simp) (by simp; rfl) (by simp) ?_
  refine WN.keep [0, 1] ?_
  refine WP.seq ?_
  refine WP.regN prg (by kernel_rfl) ?_ -- region 1
  refine WN.op prg (by simp) (by simp; rfl) (by simp) ?_
  refine WN.op prg (by simp) (by simp; rfl) (by simp) ?_
  refine WN.call prg [] [] (by simp) rfl (by simp; rfl) (by simp) (CallsA.at (by simp) (by simp) (c_index l x hl)) ?_
  rintro _ _ ⟨rfl, rfl⟩
  refine ⟨_, by simp; rfl, ?_⟩
  refine WN.op prg (by simp) (by simp; rfl) (by simp) ?_
  refine WN.op prg (by simp) (by simp; rfl) (by simp) ?_
  refine WN.keep [4] ?_
  refine WP.ret (DoneQ.ret [] (by simp; rfl) (by simp; rfl) ?_)
  exact ⟨rfl, by simp [indexI_nonneg]⟩
theorem all_step {l : List Int} {p : Int → Bool} {k : Nat} (h : (l.take k).all p = true) (hp : p (l[k]?.getD 0) = true) : (l.take (k + 1)).all p = true := by
  rw [List.take_add_one]
  cases hk : l[k]? with
  | none => simpa using h
  | some x =>
    rw [hk] at hp
    simp only [List.all_append, h, Bool.true_and]
    simpa using hp
theorem all_fail {l : List Int} {p : Int → Bool} {k : Nat} (hk : k < l.length) (hp : p (l[k]?.getD 0) = false) : l.all p = false := by
  rw [List.getElem?_eq_getElem hk] at hp
  cases h : l.all p with
  | false => rfl
  | true =>
    have := List.all_eq_true.1 h _ (List.getElem_mem hk)
    simp only [Option.getD_some] at hp
    rw [hp] at this
    cases this
theorem c_implGridValid (g : List Int) (n : Int) (hl : g.length ≤ 140737488355328) : CallsA Try.prog 74 [.c (.dsl false (.ints .i64 g)), .c (.int .i64 n)] [] fun r ho => ho = [] ∧ r = .v (.c (.bool (gridOk g n))) := by
  refine CallsA.of (tv := tyOf Try.prog) (fn := Try.f74) prg.tv Try.func74 rfl rfl (by simp) ?_
  refine WP.seq ?_
  refine WP.regN prg (by kernel_rfl) ?_ -- region 0
  refine WN.op prg (by simp) (by simp; rfl) (by simp) ?_
  refine WN.keep [0, 1] ?_
  refine WP.seq ?_
  refine WP.seq ?_
  refine WP.regN prg (by kernel_rfl) ?_ -- region 1
  refine WN.op prg (by simp) (by simp; rfl) (by simp) ?_
  refine WN.call prg [] [] (by simp) rfl (by simp; rfl) (by simp) (CallsA.at (by simp) (by simp) (c_sizeOk n)) ?_
  rintro _ _ ⟨rfl, rfl⟩
  refine ⟨_, by simp; rfl, ?_⟩
  refine WN.op prg (by simp) (by simp; rfl) (by simp) ?_
  refine WN.op prg (by simp) (by simp; rfl) (by simp) ?_
  apply WN.join (t := 17) 7 10
  · first | rfl | (simp; rfl)
  · intro hg10
    refine WN.skip prg (by simp) ?_
    refine WN.skip prg (by simp) ?_
    refine WN.skip prg (by simp) ?_
    refine WN.skip prg (by simp) ?_
    refine WN.skip prg (by simp) ?_
    refine WN.skip prg (by simp) ?_
    refine WN.op prg (by simp) (by simp; rfl) (by simp) ?_
    exact WN.keep [17, 0, 1] rfl
  · intro hg10
    refine WN.op prg (by simp) (by simp; rfl) (by simp) ?_
    refine WN.op prg (by simp) (by simp; rfl) (by simp) ?_
    refine WN.op prg (by simp) (by simp; rfl) (by simp) ?_
    refine WN.op prg (by simp) (by simp; rfl) (by simp) ?_
    refine WN.op prg (by simp) (by simp; rfl) (by simp) ?_
    refine WN.op prg (by simp) (by simp; rfl) (by simp) ?_
    refine WN.op prg (by simp) (by simp; rfl) (by simp) ?_
    exact WN.keep [17, 0, 1] rfl
  refine WN.keep [0, 1, 17] ?_
  refine WP.cond (by first | rfl | (simp; rfl)) (fun hb => ?_) (fun hb => ?_)
  · try simp at hb
    refine WP.seq ?_
    refine WP.regN prg (by kernel_rfl) ?_ -- region 2
    refine WN.op prg (by simp) (by simp; rfl) (by simp) ?_
    refine WN.keep [4] ?_
    refine WP.ret (DoneQ.ret [] (by simp; rfl) (by simp; rfl) ?_)
    refine ⟨rfl, ?_⟩
    have : gridOk g n = false := by
      cases h : gridOk g n with
      | false => rfl
      | true =>
        simp only [gridOk, Bool.and_eq_true, decide_eq_true_eq] at h
        obtain ⟨⟨⟨h1, h2⟩, h3⟩, _⟩ := h
        have := sq_bound h1 h2
        rw [wrap_id (by omega) (by omega)] at hb
        omega
    simp [this]
  · try simp at hb
    refine WP.skip ?_
    refine WP.seq ?_
    refine WP.seq ?_
    refine WP.regN prg (by kernel_rfl) ?_ -- region 3
    refine WN.op prg (by simp) (by simp; rfl) (by simp) ?_
    refine WN.op prg (by simp) (by simp; rfl) (by simp) ?_
    refine WN.op prg (by simp) (by simp; rfl) (by simp) ?_
    refine WN.keep [1, 18, 19, 20] ?_
    refine WP.block ?_
    obtain ⟨⟨h2, h4⟩, h3⟩ := hb
    have hsq := sq_bound h2 h4
    rw [wrap_id (by omega) (by omega)] at h3
    refine WP.loop (fun i s => ∃ k, i = g.length - k ∧ k ≤ g.length ∧ (g.take k).all (cellOk n) = true ∧ s = ⟨[(1, .v (.c (.int .i64 n))), (18, .v (.c (.dsl false (.ints .i64 g)))), (19, .v (.c (.int .i64 g.length))), (20, .v (.c (.int .i64 (k : Nat))))], []⟩) g.length ⟨0, by simp⟩ ?_
    rintro _ _ ⟨k, rfl, hk, hall, rfl⟩
    refine WP.seq ?_
    refine WP.regN prg (by kernel_rfl) ?_ -- region 4
    refine WN.op prg (by simp) (by simp; rfl) (by simp) ?_
    refine WN.keep [1, 18, 19, 20, 21] ?_
    refine WP.seq ?_
    refine WP.cond (by first | rfl | (simp; rfl)) (fun hb => ?_) (fun hb => ?_)
    · try simp at hb
      refine WP.skip ?_
      refine WP.seq ?_
      refine WP.block ?_
      refine WP.seq ?_
      refine WP.regN prg (by kernel_rfl) ?_ -- region 5
      refine WN.op prg (by simp) (by simp; rfl) (by first | (simp; done) | (simp; omega)) ?_
      refine WN.op prg (by simp) (by simp; rfl) (by first | (simp; done) | (simp; omega)) ?_
      refine WN.op prg (by simp) (by simp; rfl) (by simp) ?_
      refine WN.keep [1, 6, 18, 19, 20] ?_
      refine WP.seq ?_
      refine WP.regN prg (by kernel_rfl) ?_ -- region 6
      refine WN.op prg (by simp) (by simp; rfl) (by simp) ?_
      refine WN.op prg (by simp) (by simp; rfl) (by simp) ?_
      refine WN.op prg (by simp) (by simp; rfl) (by simp) ?_
      apply WN.join (t := 30) 4 26
      · first | rfl | (simp; rfl)
      · intro hg26
        refine WN.skip prg (by simp) ?_
        refine WN.skip prg (by simp) ?_
        refine WN.skip prg (by simp) ?_
        refine WN.op prg (by simp) (by simp; rfl) (by simp) ?_
        exact WN.keep [30, 1, 18, 19, 20] rfl
      · intro hg26
        refine WN.op prg (by simp) (by simp; rfl) (by simp) ?_
        refine WN.op prg (by simp) (by simp; rfl) (by simp) ?_
        refine WN.op prg (by simp) (by simp; rfl) (by simp) ?_
        refine WN.op prg (by simp) (by simp; rfl) (by simp) ?_
        exact WN.keep [30, 1, 18, 19, 20] rfl
      refine WN.keep [1, 18, 19, 20, 30] ?_
      refine WP.cond (by first | rfl | (simp; rfl)) (fun hb => ?_) (fun hb => ?_)
      · try simp at hb
        refine WP.seq ?_
        refine WP.regN prg (by kernel_rfl) ?_ -- region 7
        refine WN.op prg (by simp) (by simp; rfl) (by simp) ?_
        refine WN.keep [4] ?_
        refine WP.ret (DoneQ.ret [] (by simp; rfl) (by simp; rfl) ?_)
        rename_i hkl
        exact ⟨rfl, by simp [gridOk, all_fail (p := cellOk n) hkl (by simp [cellOk]; omega)]⟩
      · try simp at hb
        refine WP.skip ?_
        refine WP.regN prg (by kernel_rfl) ?_ -- region 8
        refine WN.op prg (by simp) (by simp; rfl) (by simp) ?_
        refine WN.op prg (by simp) (by simp; rfl) (by simp) ?_
        refine WN.keep [1, 18, 19, 20] ?_
        exact ⟨g.length - (k + 1), by omega, k + 1, rfl, by omega, all_step hall (by simp [cellOk]; omega), by simp [wrap_id (n := (k : Int) + 1) (by omega) (by omega)]⟩
    · try simp at hb
      refine WP.exit ?_
      refine WP.seq ?_
      refine WP.regN prg (by kernel_rfl) ?_ -- region 9
      refine WN.op prg (by simp) (by simp; rfl) (by simp) ?_
      refine WN.keep [4] ?_
      refine WP.ret (DoneQ.ret [] (by simp; rfl) (by simp; rfl) ?_)
      have hkk : k = g.length := by omega
      subst hkk
      rw [List.take_length] at hall
      exact ⟨rfl, by simp [gridOk, hall, h2, h4, h3]⟩
theorem c_specGridValid (g : List Int) (n : Int) (hl : g.length ≤ 140737488355328) : CallsA Try.prog 77 [.c (.dsl false (.ints .i64 g)), .c (.int .i64 n)] [] fun r ho => ho = [] ∧ r = .v (.c (.bool (gridOk g n))) := by
  refine CallsA.of (tv := tyOf Try.prog) (fn := Try.f77) prg.tv Try.func77 rfl rfl (by simp) ?_
  refine WP.seq ?_
  refine WP.regN prg (by kernel_rfl) ?_ -- region 0
  refine WN.op prg (by simp) (by simp; rfl) (by simp) ?_
  refine WN.keep [0, 1] ?_
  refine WP.seq ?_
  refine WP.seq ?_
  refine WP.regN prg (by kernel_rfl) ?_ -- region 1
  refine WN.op prg (by simp) (by simp; rfl) (by simp) ?_
  refine WN.keep [0, 1, 5] ?_
  refine WP.block ?_
  refine WP.loop (fun i s => ∃ k, i = g.length - k ∧ k ≤ g.length ∧ (g.take k).all (cellOk n) = true ∧ s = ⟨[(0, .v (.c (.dsl false (.ints .i64 g)))), (1, .v (.c (.int .i64 n))), (5, .v (.c (.int .i64 (k : Nat))))], []⟩) g.length ⟨0, by simp⟩ ?_
  rintro _ _ ⟨k, rfl, hk, hall, rfl⟩
  refine WP.seq ?_
  refine WP.seq ?_
  refine WP.regN prg (by kernel_rfl) ?_ -- region 2
  refine WN.op prg (by simp) (by simp; rfl) (by simp) ?_
  refine WN.op prg (by simp) (by simp; rfl) (by simp) ?_
  refine WN.op prg (by simp) (by simp; rfl) (by simp) ?_
  refine WN.op prg (by simp) (by simp; rfl) (by simp) ?_
  refine WN.keep [0, 1, 5, 9] ?_
  refine WP.cond (by first | rfl | (simp; rfl)) (fun hb => ?_) (fun hb => ?_)
  · try simp at hb
    refine WP.skip ?_
    refine WP.seq ?_
    refine WP.block ?_
    refine WP.seq ?_
    refine WP.regN prg (by kernel_rfl) ?_ -- region 4
    refine WN.op prg (by simp) (by simp; rfl) (by simp) ?_
    refine WN.op prg (by simp) (by simp; rfl) (by simp) ?_
    refine WN.op prg (by simp) (by simp; rfl) (by first | (simp; done) | (simp; omega)) ?_
    refine WN.op prg (by simp) (by simp; rfl) (by first | (simp; done) | (simp; omega)) ?_
    refine WN.op prg (by simp) (by simp; rfl) (by simp) ?_
    refine WN.call prg [] [] (by simp) rfl (by simp; rfl) (by simp) (CallsA.at (by simp) (by simp) (c_l1In (g[k]?.getD 0) 0 n)) ?_
    rintro _ _ ⟨rfl, rfl⟩
    refine ⟨_, by simp; rfl, ?_⟩
    refine WN.op prg (by simp) (by simp; rfl) (by simp) ?_
    refine WN.keep [0, 1, 5, 18] ?_
    refine WP.cond (by first | rfl | (simp; rfl)) (fun hb => ?_) (fun hb => ?_)
    · try simp at hb
      refine WP.seq ?_
      refine WP.regN prg (by kernel_rfl) ?_ -- region 5
      refine WN.op prg (by simp) (by simp; rfl) (by simp) ?_
      refine WN.keep [4] ?_
      refine WP.ret (DoneQ.ret [] (by simp; rfl) (by simp; rfl) ?_)
      rename_i hkl
      exact ⟨rfl, by simp [gridOk, all_fail (p := cellOk n) hkl (by simp [cellOk]; omega)]⟩
    · try simp at hb
      refine WP.skip ?_
      refine WP.regN prg (by kernel_rfl) ?_ -- region 3
      refine WN.op prg (by simp) (by simp; rfl) (by simp) ?_
      refine WN.op prg (by simp) (by simp; rfl) (by simp) ?_
      refine WN.op prg (by simp) (by simp; rfl) (by simp) ?_
      refine WN.keep [0, 1, 5] ?_
      exact ⟨g.length - (k + 1), by omega, k + 1, rfl, by omega, all_step hall (by simp [cellOk]; omega), by simp [wrap_id (n := (k : Int) + 1) (by omega) (by omega)]⟩
  · try simp at hb
    refine WP.exit ?_
    refine WP.seq ?_
    refine WP.regN prg (by kernel_rfl) ?_ -- region 6
    refine WN.op prg (by simp) (by simp; rfl) (by simp) ?_
    refine WN.call prg [] [] (by simp) rfl (by simp; rfl) (by simp) (CallsA.at (by simp) (by simp) (c_l1In n 2 4)) ?_
    rintro _ _ ⟨rfl, rfl⟩
    refine ⟨_, by simp; rfl, ?_⟩
    refine WN.op prg (by simp) (by simp; rfl) (by simp) ?_
    apply WN.join (t := 28) 7 21
    · first | rfl | (simp; rfl)
    · intro hg21
      refine WN.op prg (by simp) (by simp; rfl) (by simp) ?_
      refine WN.op prg (by simp) (by simp; rfl) (by simp) ?_
      refine WN.op prg (by simp) (by simp; rfl) (by simp) ?_
      refine WN.op prg (by simp) (by simp; rfl) (by simp) ?_
      refine WN.op prg (by simp) (by simp; rfl) (by simp) ?_
      refine WN.op prg (by simp) (by simp; rfl) (by simp) ?_
      refine WN.op prg (by simp) (by simp; rfl) (by simp) ?_
      exact WN.keep [28] rfl
    · intro hg21
      refine WN.skip prg (by simp) ?_
      refine WN.skip prg (by simp) ?_
      refine WN.skip prg (by simp) ?_
      refine WN.skip prg (by simp) ?_
      refine WN.skip prg (by simp) ?_
      refine WN.skip prg (by simp) ?_
      refine WN.op prg (by simp) (by simp; rfl) (by simp) ?_
      exact WN.keep [28] rfl
    refine WN.op prg (by simp) (by simp; rfl) (by simp) ?_
    refine WN.keep [4] ?_
    refine WP.ret (DoneQ.ret [] (by simp; rfl) (by simp; rfl) ?_)
    have hkk : k = g.length := by omega
    subst hkk
    rw [List.take_length] at hall
    refine ⟨rfl, ?_⟩
    have : gridOk g n = (decide (2 ≤ n) && decide (n ≤ 4) && decide ((g.length : Int) = IntKind.i64.wrap (n * n))) := by
      simp only [gridOk, hall, Bool.and_true]
      by_cases h2 : 2 ≤ n
      · by_cases h4 : n ≤ 4
        · have := sq_bound h2 h4
          rw [wrap_id (by omega) (by omega)]
        · simp [h4]
      · simp [h2]
    simp [this, beq_dec]
end Go.Proofs.Ytaicenafkjbnoaa

