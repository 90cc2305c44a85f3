/- Contracts: the search of the reference. -/
import Derived.Test.YtaicenafkjbnoaaC10
set_option linter.unusedVariables false
set_option linter.unusedSimpArgs false
namespace Go.Proofs.Ytaicenafkjbnoaa
open Go Go.AM
set_option maxRecDepth 100000

/-- The grid has all that is given. -/
def ext (gv g : List Int) : Prop := ∀ k : Nat, pos (gv[k]?.getD 0) = true → g[k]?.getD 0 = gv[k]?.getD 0
theorem ext.refl (g : List Int) : ext g g := fun _ _ => rfl
theorem ext.agree {gv g : List Int} (h : ext gv g) : agree gv g = true := agree_iff.2 fun k _ => by
  unfold badA
  cases hp : pos (gv[k]?.getD 0) with
  | false => simp
  | true => simp [h k hp]
theorem ext.set {gv g : List Int} (h : ext gv g) {k : Nat} (hk : pos (g[k]?.getD 0) = false) (v : Int) : ext gv (g.set k v) := fun j hj => by
  by_cases e : k = j
  · subst e
    rw [h k hj] at hk
    rw [hj] at hk
    cases hk
  · rw [List.getElem?_set_ne e]
    exact h j hj
theorem gridOk_set {g : List Int} {n : Int} (hg : gridOk g n = true) (k : Nat) {v : Int} (h0 : 0 ≤ v) (hv : v ≤ n) : gridOk (g.set k v) n = true := by
  simp only [gridOk, Bool.and_eq_true, decide_eq_true_eq, List.length_set] at *
  refine ⟨hg.1, List.all_eq_true.2 fun x hx => ?_⟩
  rcases List.mem_or_eq_of_mem_set hx with hx | rfl
  · exact List.all_eq_true.1 hg.2 x hx
  · simp [cellOk, h0, hv]
/-- What is found with the first values of a cell. -/
def searchV (n : Int) (rules : List Rule) (d q : Nat) (g : List Int) (k : Nat) : List (List Int) :=
  (List.range k).flatMap fun (v : Nat) => if fits0 n rules (g.set q ((v : Int) + 1)) = true then search n rules d (q + 1) (g.set q ((v : Int) + 1)) else []
theorem searchV_succ (n : Int) (rules : List Rule) (d q : Nat) (g : List Int) (k : Nat) :
    searchV n rules d q g (k + 1) = searchV n rules d q g k ++ if fits0 n rules (g.set q ((k : Int) + 1)) = true then search n rules d (q + 1) (g.set q ((k : Int) + 1)) else [] := by
  simp [searchV, List.range_succ, List.flatMap_append]
theorem search_pos {n : Int} {rules : List Rule} {d q : Nat} {g : List Int} (h : pos (g[q]?.getD 0) = true) : search n rules (d + 1) q g = search n rules d (q + 1) g := by
  rw [search, if_pos h]
theorem search_zero {n : Int} {rules : List Rule} {d q : Nat} {g : List Int} (h : pos (g[q]?.getD 0) = false) : search n rules (d + 1) q g = searchV n rules d q g n.toNat := by
  rw [search, if_neg (by simp [h])]
  rfl
theorem take_take_app {α : Type} (x y : List α) (m : Nat) : (x.take m ++ y).take m = (x ++ y).take m := by
  by_cases h : m ≤ x.length
  · rw [List.take_append_of_le_length (by simp; omega), List.take_append_of_le_length h, List.take_take, Nat.min_self]
  · rw [List.take_of_length_le (show x.length ≤ m by omega)]
theorem searchV_prefix (n : Int) (rules : List Rule) (d q : Nat) (g : List Int) {k N : Nat} (h : k ≤ N) : ∃ t, searchV n rules d q g N = searchV n rules d q g k ++ t := by
  induction N with
  | zero => obtain rfl : k = 0 := by omega
            exact ⟨[], by simp⟩
  | succ N ih =>
    by_cases e : k = N + 1
    · subst e; exact ⟨[], by simp⟩
    · obtain ⟨t, ht⟩ := ih (by omega)
      rw [searchV_succ, ht, List.append_assoc]
      exact ⟨_, rfl⟩
/-- Rows of numbers as elements. -/
def rowsD (l : List (List Int)) : List (List D) := l.map fun g => [D.ints .i64 g]
@[simp] theorem rowsD_len (l : List (List Int)) : (rowsD l).length = l.length := by simp [rowsD]
@[simp] theorem rowsD_nil : rowsD [] = [] := rfl
@[simp] theorem rowsD_snoc (l : List (List Int)) (g : List Int) : rowsD l ++ [[D.ints .i64 g]] = rowsD (l ++ [g]) := by simp [rowsD]
def tkL (m : Nat) (out x : List (List Int)) : List (List Int) := (out ++ x).take m
theorem tkL_nil {m : Nat} {out : List (List Int)} (h : out.length ≤ m) : tkL m out [] = out := by
  unfold tkL
  rw [List.append_nil, List.take_of_length_le h]
theorem tkL_full {m : Nat} {out x y : List (List Int)} (h : m ≤ (tkL m out x).length) : tkL m out (x ++ y) = tkL m out x := by
  unfold tkL at *
  simp only [List.length_take] at h
  rw [← List.append_assoc, List.take_append_of_le_length (by omega)]
theorem tkL_app (m : Nat) (out x y : List (List Int)) : tkL m (tkL m out x) y = tkL m out (x ++ y) := by
  unfold tkL
  rw [take_take_app, List.append_assoc]
theorem tkL_le (m : Nat) (out x : List (List Int)) : (tkL m out x).length ≤ m := by
  unfold tkL
  simp
  omega
@[simp] def outH (fr : Bool) (v : Nat) (l : List (List Int)) : Heap := [(8000, .box 0 [.osl 8001 v 0 l.length]), (8001, .arr v fr (.recs 1 (rowsD l)))]
@[simp] def outG (fr : Bool) (v : Nat) (l : List (List Int)) (g : List Int) : Heap := outH fr v l ++ [(8002, .arr 0 true (.ints .i64 g))]
def SPost (l : List (List Int)) (x : LV) (ho : Heap) : Prop := ∃ v fr, ho = outH fr v l ∧ x = .tup []
def SPostG (g : List Int) (l : List (List Int)) (x : LV) (ho : Heap) : Prop := ∃ v fr, ho = outG fr v l g ∧ x = .tup []
theorem w_l5SearchG (p : Puzzle) (g : List Int) (q0 most : Nat) (out : List (List Int)) (fr : Bool) (hp : puzzleOk p = true) (hg : gridOk g p.size = true) (he : ext p.given g) (hq : q0 ≤ g.length) (hm : most ≤ 1000) (ho : out.length < most)
    (ih : ∀ q g' out' fr', q0 < q → q ≤ g.length → g'.length = g.length → gridOk g' p.size = true → ext p.given g' → out'.length < most →
      CallsA Try.prog 186 [p.v false, .c (.osl 8002 0 0 g.length), .c (.int .i64 (q)), .c (.int .i64 (most)), .c (.ptr 8000 0 0 0)] (outG fr' 0 out' g') (SPostG g' (tkL most out' (search p.size p.rules (g.length - q) q g')))) :
    CallsA Try.prog 186 [p.v false, .c (.osl 8002 0 0 g.length), .c (.int .i64 (q0)), .c (.int .i64 (most)), .c (.ptr 8000 0 0 0)] (outG fr 0 out g) (SPostG g (tkL most out (search p.size p.rules (g.length - q0) q0 g))) := by
  have hgl := grid_len hg
  obtain ⟨h2, h4, hll⟩ := gridOk_size hg
  unfold Puzzle.v rulesD outG outH
  refine CallsA.of (tv := tyOf Try.prog) (fn := Try.f186) prg.tv Try.func186 rfl rfl (by simp) ?_
  refine WP.seq ?_
  refine WP.regN prg (by kernel_rfl) ?_ -- region 0
  refine WN.op prg (by simp) (by simp; rfl) (by simp) ?_
  refine WN.keep [1, 2, 3, 4, 5] ?_
  refine WP.seq ?_
  refine WP.block ?_
  refine WP.loopX (α := Nat) ((g.length - q0)) (fun j q => [(2, .v (.c (.int .i64 (q))))]) (fun j q => []) (fun j q => (q = q0 + j) ∧ (search p.size p.rules (g.length - q) q g = search p.size p.rules (g.length - q0) q0 g)) (q0) (fun k a => by simp [putAll]; rfl) (fun k a => by simp; rfl) (by simp) (by simp) (by simp) ?_
  rintro j q hk ⟨hqj, hs⟩
  refine WP.seq ?_
  refine WP.seq ?_
  refine WP.regN prg (by kernel_rfl) ?_ -- region 1
  refine WN.op prg (by simp) (by simp; rfl) (by simp) ?_
  refine WN.op prg (by simp) (by simp; rfl) (by simp) ?_
  refine WN.op prg (by simp) (by simp; rfl) (by simp) ?_
  refine WN.op prg (by simp) (by simp; rfl) (by simp) ?_
  refine WN.op prg (by simp) (by simp; rfl) (by simp) ?_
  apply WN.join (t := 22) 6 16
  · first | rfl | (simp; rfl)
  · intro hg16
    refine WN.op prg (by simp) (by simp; rfl) (by simp) ?_
    try have hgp := of_decide_eq_true hg16
    refine WN.op prg (by simp) (by simp; rfl) (by simp) ?_
    refine WN.op prg (by simp) (by simp; rfl) (by first | (simp; done) | (simp; omega)) ?_
    refine WN.op prg (by simp) (by simp; rfl) (by first | (simp; done) | (simp; omega)) ?_
    refine WN.op prg (by simp) (by simp; rfl) (by simp) ?_
    refine WN.op prg (by simp) (by simp; rfl) (by simp) ?_
    exact WN.keep [22, 1, 2, 3, 4, 5] rfl
  · intro hg16
    refine WN.skip prg (by simp) ?_
    try have hgp := of_decide_eq_true hg16
    refine WN.skip prg (by simp) ?_
    refine WN.skip prg (by simp) ?_
    refine WN.skip prg (by simp) ?_
    refine WN.skip prg (by simp) ?_
    refine WN.op prg (by simp) (by simp; rfl) (by simp) ?_
    exact WN.keep [22, 1, 2, 3, 4, 5] rfl
  refine WN.keep [1, 2, 3, 4, 5, 22] ?_
  refine WP.cond (by first | rfl | (simp; rfl)) (fun hb => ?_) (fun hb => ?_)
  · try simp at hb
    refine WP.skip ?_
    refine WP.block ?_
    refine WP.regN prg (by kernel_rfl) ?_ -- region 2
    refine WN.op prg (by simp) (by simp; rfl) (by simp) ?_
    refine WN.op prg (by simp) (by simp; rfl) (by simp) ?_
    refine WN.op prg (by simp) (by simp; rfl) (by simp) ?_
    refine WN.keep [1, 2, 3, 4, 5] ?_
    have hps : pos (g[q]?.getD 0) = true := by have := hb.2; simp only [pos, decide_eq_true_eq]; exact this
    refine ⟨by omega, q + 1, ⟨by omega, ?_⟩, ?_⟩
    · rw [← hs, show g.length - q = (g.length - (q + 1)) + 1 by omega, search_pos hps]
    · simp [wrap_id (n := (q : Int) + 1) (by omega) (by omega)]
  · try simp at hb
    refine WP.exit ?_
    refine WP.seq ?_
    refine WP.seq ?_
    refine WP.regN prg (by kernel_rfl) ?_ -- region 3
    refine WN.op prg (by simp) (by simp; rfl) (by simp) ?_
    refine WN.op prg (by simp) (by simp; rfl) (by simp) ?_
    refine WN.op prg (by simp) (by simp; rfl) (by simp) ?_
    refine WN.op prg (by simp) (by simp; rfl) (by simp) ?_
    refine WN.keep [1, 2, 3, 4, 5, 28] ?_
    refine WP.cond (by first | rfl | (simp; rfl)) (fun hb => ?_) (fun hb => ?_)
    · try simp at hb
      refine WP.seq ?_
      refine WP.reg prg (by kernel_rfl) ?_ -- region 4 DRAWS
      refine WS.d (by simp) (by simp; rfl) (by simp) (by kernel_rfl) ?_
      refine WS.d (by simp) (by simp; rfl) (by simp) (by kernel_rfl) ?_
      refine WS.d (by simp) (by simp; rfl) (by simp) (by kernel_rfl) ?_
      refine WS.d (by simp) (by simp; rfl) (by first | (simp; done) | (simp; omega)) (by kernel_rfl) ?_
      refine WS.d (by simp) (by simp; rfl) (by simp) (by kernel_rfl) ?_
      refine WS.d (by simp) (by simp; rfl) (by simp) (by kernel_rfl) ?_
      refine WS.d (by simp) (by simp; rfl) (by first | (simp; done) | (simp; omega)) (by kernel_rfl) ?_
      refine WS.d (by simp) (by simp; rfl) (by simp) (by kernel_rfl) ?_
      refine WS.d (by simp) (by simp; rfl) (by first | (simp; done) | (simp; omega)) (by kernel_rfl) ?_
      refine WS.d (by simp) (by simp; rfl) (by simp) (by kernel_rfl) ?_
      refine WS.d (by simp) (by simp; rfl) (by first | (simp; done) | (simp; omega)) (by kernel_rfl) ?_
      refine WS.keep [] ?_
      refine WP.ret (DoneQ.ret [] (by simp; rfl) (by simp; rfl) ?_)
      have hqe : q = g.length := by omega
      have e : search p.size p.rules (g.length - q0) q0 g = [g] := by rw [← hs, hqe, Nat.sub_self]; rfl
      have e2 : tkL most out [g] = out ++ [g] := List.take_of_length_le (by simp; omega)
      rw [e, e2]
      exact ⟨1, fr, by simp [List.take_of_length_le], by simp⟩
    · try simp at hb
      refine WP.skip ?_
      refine WP.seq ?_
      refine WP.regN prg (by kernel_rfl) ?_ -- region 5
      refine WN.op prg (by simp) (by simp; rfl) (by simp) ?_
      refine WN.keep [1, 2, 3, 4, 5, 10] ?_
      refine WP.block ?_
      have hqe : q < g.length := by omega
      have hz : pos (g[q]?.getD 0) = false := by
        have h1 : g[q]?.getD 0 ≤ 0 := ‹q < g.length → _› hqe
        simp only [pos, decide_eq_false_iff_not]
        omega
      have e0 : search p.size p.rules (g.length - q0) q0 g = searchV p.size p.rules (g.length - (q + 1)) q g p.size.toNat := by
        rw [← hs, show g.length - q = (g.length - (q + 1)) + 1 by omega, search_zero hz]
      rw [e0]
      refine WP.loopX (α := Nat × Bool) (p.size.toNat) (fun k vf => [(10, .v (.c (.int .i64 ((k : Int) + 1))))]) (fun k vf => [(8000, .box 0 [.osl 8001 vf.1 0 (tkL most out (searchV p.size p.rules (g.length - (q + 1)) q g k)).length]), (8001, .arr vf.1 vf.2 (.recs 1 (rowsD (tkL most out (searchV p.size p.rules (g.length - (q + 1)) q g k)))))]) (fun k vf => True) ((0, fr)) (fun k a => by simp [putAll]; rfl) (fun k a => by simp; rfl) (by trivial) (by simp) (by simp [searchV, tkL_nil (show out.length ≤ most by omega)]) ?_
      rintro k vf hk _
      refine WP.seq ?_
      refine WP.seq ?_
      refine WP.regN prg (by kernel_rfl) ?_ -- region 6
      refine WN.op prg (by simp) (by simp; rfl) (by simp) ?_
      refine WN.op prg (by simp) (by simp; rfl) (by simp) ?_
      refine WN.op prg (by simp) (by simp; rfl) (by first | (simp; done) | (simp; omega)) ?_
      refine WN.op prg (by simp) (by simp; rfl) (by simp) ?_
      refine WN.op prg (by simp) (by simp; rfl) (by simp) ?_
      apply WN.join (t := 50) 7 43
      · first | rfl | (simp; rfl)
      · intro hg43
        refine WN.op prg (by simp) (by simp; rfl) (by simp) ?_
        refine WN.op prg (by simp) (by simp; rfl) (by simp) ?_
        refine WN.op prg (by simp) (by simp; rfl) (by first | (simp; done) | (simp; omega)) ?_
        refine WN.op prg (by simp) (by simp; rfl) (by simp) ?_
        refine WN.op prg (by simp) (by simp; rfl) (by simp) ?_
        refine WN.op prg (by simp) (by simp; rfl) (by simp) ?_
        refine WN.op prg (by simp) (by simp; rfl) (by simp) ?_
        exact WN.keep [50, 1, 2, 3, 4, 5, 10] rfl
      · intro hg43
        refine WN.skip prg (by simp) ?_
        refine WN.skip prg (by simp) ?_
        refine WN.skip prg (by simp) ?_
        refine WN.skip prg (by simp) ?_
        refine WN.skip prg (by simp) ?_
        refine WN.skip prg (by simp) ?_
        refine WN.op prg (by simp) (by simp; rfl) (by simp) ?_
        exact WN.keep [50, 1, 2, 3, 4, 5, 10] rfl
      refine WN.keep [1, 2, 3, 4, 5, 10, 50] ?_
      refine WP.cond (by first | rfl | (simp; rfl)) (fun hb => ?_) (fun hb => ?_)
      · try simp at hb
        refine WP.skip ?_
        refine WP.seq ?_
        refine WP.block ?_
        refine WP.seq ?_
        refine WP.regN prg (by kernel_rfl) ?_ -- region 8
        refine WN.op prg (by simp) (by simp; rfl) (by simp) ?_
        refine WN.op prg (by simp) (by simp; rfl) (by simp) ?_
        refine WN.op prg (by simp) (by simp; rfl) (by first | (simp; done) | (simp; omega)) ?_
        refine WN.op prg (by simp) (by simp; rfl) (by simp) ?_
        refine WN.keep [1, 2, 3, 4, 5, 10, 11] ?_
        refine WP.seq ?_
        refine WP.regN prg (by kernel_rfl) ?_ -- region 9
        refine WN.op prg (by simp) (by simp; rfl) (by simp) ?_
        refine WN.op prg (by simp) (by simp; rfl) (by simp) ?_
        refine WN.op prg (by simp) (by simp; rfl) (by simp) ?_
        refine WN.op prg (by simp) (by simp; rfl) (by first | (simp; done) | (simp; omega)) ?_
        refine WN.op prg (by simp) (by simp; rfl) (by first | (simp; done) | (simp; omega)) ?_
        refine WN.keep [1, 2, 3, 4, 5, 10, 11] ?_
        refine WP.seq ?_
        refine WP.regN prg (by kernel_rfl) ?_ -- region 10
        refine WN.op prg (by simp) (by simp; rfl) (by first | (simp; done) | (simp; omega)) ?_
        refine WN.op prg (by simp) (by simp; rfl) (by simp) ?_
        have hgs : gridOk (g.set q ((k : Int) + 1)) p.size = true := gridOk_set hg q (by omega) (by omega)
        have hes := ext.set he hz ((k : Int) + 1)
        have hfe : fitsP p (g.set q ((k : Int) + 1)) = fits0 p.size p.rules (g.set q ((k : Int) + 1)) := by simp [fitsP, hes.agree]
        refine WN.call prg [] [424] (by simp) rfl (by simp; rfl) (by simp) (CallsA.at (by simp [List.take_of_length_le]) (by simp) (c_l5Fits p (g.set q ((k : Int) + 1)) hp hgs)) ?_
        rintro _ _ ⟨rfl, rfl⟩
        refine ⟨_, by simp; rfl, ?_⟩
        refine WN.keep [1, 2, 3, 4, 5, 10, 11, 62] ?_
        refine WP.cond (by first | rfl | (simp; rfl)) (fun hb => ?_) (fun hb => ?_)
        · try simp at hb
          refine WP.regN prg (by kernel_rfl) ?_ -- region 11
          refine WN.op prg (by simp) (by simp; rfl) (by first | (simp; done) | (simp; omega)) ?_
          refine WN.op prg (by simp) (by simp; rfl) (by simp) ?_
          refine WN.op prg (by simp) (by simp; rfl) (by simp) ?_
          refine WN.op prg (by simp) (by simp; rfl) (by simp) ?_
          refine WN.op prg (by simp) (by simp; rfl) (by simp) ?_
          refine WN.op prg (by simp) (by simp; rfl) (by simp) ?_
          have hw : IntKind.i64.wrap ((q : Int) + 1) = ((q + 1 : Nat) : Int) := wrap_id (by omega) (by omega)
          have hfy : fits0 p.size p.rules (g.set q ((k : Int) + 1)) = true := by rw [← hfe]; exact hb
          refine WN.call prg [8000, 8001, 424] [] (by simp) rfl (by simp; rfl) (by simp) (CallsA.at (by simp [hw]) (by simp) (ih (q + 1) (g.set q ((k : Int) + 1)) (tkL most out (searchV p.size p.rules (g.length - (q + 1)) q g k)) (D.flatRow (.recs 1 (rowsD (tkL most out (searchV p.size p.rules (g.length - (q + 1)) q g k))))) (by omega) (by omega) (by simp) hgs hes (by omega))) ?_
          rintro _ _ ⟨v', fr', rfl, rfl⟩
          refine ⟨_, by simp; rfl, ?_⟩
          refine WN.keep [1, 2, 3, 4, 5, 10] ?_
          refine WP.regN prg (by kernel_rfl) ?_ -- region 7
          refine WN.tidy [1, 2, 3, 4, 5, 10] [8000, 8001, 8002, 40] (by simp; rfl) ?_
          refine WN.op prg (by simp) (by simp; rfl) (by simp) ?_
          refine WN.op prg (by simp) (by simp; rfl) (by simp) ?_
          refine WN.op prg (by simp) (by simp; rfl) (by simp) ?_
          refine WN.keep [1, 2, 3, 4, 5, 10] ?_
          refine ⟨by omega, (vf.1 + v', fr' || (rowsD (tkL most out (searchV p.size p.rules (g.length - (q + 1)) q g k ++ search p.size p.rules (g.length - (q + 1)) (q + 1) (g.set q ((k : Int) + 1))))).all fun x => x.all D.flat), trivial, ?_⟩
          simp [searchV_succ, hfy, tkL_app, wrap_id (n := (k : Int) + 1 + 1) (by omega) (by omega)]
        · try simp at hb
          refine WP.skip ?_
          refine WP.regN prg (by kernel_rfl) ?_ -- region 7
          refine WN.tidy [1, 2, 3, 4, 5, 10] [8000, 8001, 8002, 40] (by simp; rfl) ?_
          refine WN.op prg (by simp) (by simp; rfl) (by simp) ?_
          refine WN.op prg (by simp) (by simp; rfl) (by simp) ?_
          refine WN.op prg (by simp) (by simp; rfl) (by simp) ?_
          refine WN.keep [1, 2, 3, 4, 5, 10] ?_
          have hfn : fits0 p.size p.rules (g.set q ((k : Int) + 1)) = false := by rw [← hfe]; exact hb
          refine ⟨by omega, vf, trivial, ?_⟩
          simp [searchV_succ, hfn, wrap_id (n := (k : Int) + 1 + 1) (by omega) (by omega)]
      · try simp at hb
        refine WP.exit ?_
        have hfin : tkL most out (searchV p.size p.rules (g.length - (q + 1)) q g p.size.toNat) = tkL most out (searchV p.size p.rules (g.length - (q + 1)) q g k) := by
          by_cases hkn : (k : Int) + 1 ≤ p.size
          · obtain ⟨t, ht⟩ := searchV_prefix p.size p.rules (g.length - (q + 1)) q g (show k ≤ p.size.toNat by omega)
            rw [ht, tkL_full (hb hkn)]
          · rw [show k = p.size.toNat by omega]
        rw [hfin]
        refine DoneQ.nrm [] (by simp; rfl) (by simp; rfl) ⟨vf.1, vf.2, by simp, by simp⟩
theorem w_l5Search (p : Puzzle) (g : List Int) (q0 most : Nat) (out : List (List Int)) (fr : Bool) (hp : puzzleOk p = true) (hg : gridOk g p.size = true) (he : ext p.given g) (hq : q0 ≤ g.length) (hm : most ≤ 1000) (ho : out.length < most)
    (ih : ∀ q g' out' fr', q0 < q → q ≤ g.length → g'.length = g.length → gridOk g' p.size = true → ext p.given g' → out'.length < most →
      CallsA Try.prog 186 [p.v false, .c (.osl 8002 0 0 g.length), .c (.int .i64 (q)), .c (.int .i64 (most)), .c (.ptr 8000 0 0 0)] (outG fr' 0 out' g') (SPostG g' (tkL most out' (search p.size p.rules (g.length - q) q g')))) :
    CallsA Try.prog 186 [p.v false, .c (.dsl false (.ints .i64 (g))), .c (.int .i64 (q0)), .c (.int .i64 (most)), .c (.ptr 8000 0 0 0)] (outH fr 0 out) (SPost (tkL most out (search p.size p.rules (g.length - q0) q0 g))) := by
  have hgl := grid_len hg
  obtain ⟨h2, h4, hll⟩ := gridOk_size hg
  unfold Puzzle.v rulesD outH
  refine CallsA.of (tv := tyOf Try.prog) (fn := Try.f186) prg.tv Try.func186 rfl rfl (by simp) ?_
  refine WP.seq ?_
  refine WP.regN prg (by kernel_rfl) ?_ -- region 0
  refine WN.op prg (by simp) (by simp; rfl) (by simp) ?_
  refine WN.keep [1, 2, 3, 4, 5] ?_
  refine WP.seq ?_
  refine WP.block ?_
  refine WP.loopX (α := Nat) ((g.length - q0)) (fun j q => [(2, .v (.c (.int .i64 (q))))]) (fun j q => []) (fun j q => (q = q0 + j) ∧ (search p.size p.rules (g.length - q) q g = search p.size p.rules (g.length - q0) q0 g)) (q0) (fun k a => by simp [putAll]; rfl) (fun k a => by simp; rfl) (by simp) (by simp) (by simp) ?_
  rintro j q hk ⟨hqj, hs⟩
  refine WP.seq ?_
  refine WP.seq ?_
  refine WP.regN prg (by kernel_rfl) ?_ -- region 1
  refine WN.op prg (by simp) (by simp; rfl) (by simp) ?_
  refine WN.op prg (by simp) (by simp; rfl) (by simp) ?_
  refine WN.op prg (by simp) (by simp; rfl) (by simp) ?_
  refine WN.op prg (by simp) (by simp; rfl) (by simp) ?_
  refine WN.op prg (by simp) (by simp; rfl) (by simp) ?_
  apply WN.join (t := 22) 6 16
  · first | rfl | (simp; rfl)
  · intro hg16
    refine WN.op prg (by simp) (by simp; rfl) (by simp) ?_
    try have hgp := of_decide_eq_true hg16
    refine WN.op prg (by simp) (by simp; rfl) (by simp) ?_
    refine WN.op prg (by simp) (by simp; rfl) (by first | (simp; done) | (simp; omega)) ?_
    refine WN.op prg (by simp) (by simp; rfl) (by first | (simp; done) | (simp; omega)) ?_
    refine WN.op prg (by simp) (by simp; rfl) (by simp) ?_
    refine WN.op prg (by simp) (by simp; rfl) (by simp) ?_
    exact WN.keep [22, 1, 2, 3, 4, 5] rfl
  · intro hg16
    refine WN.skip prg (by simp) ?_
    try have hgp := of_decide_eq_true hg16
    refine WN.skip prg (by simp) ?_
    refine WN.skip prg (by simp) ?_
    refine WN.skip prg (by simp) ?_
    refine WN.skip prg (by simp) ?_
    refine WN.op prg (by simp) (by simp; rfl) (by simp) ?_
    exact WN.keep [22, 1, 2, 3, 4, 5] rfl
  refine WN.keep [1, 2, 3, 4, 5, 22] ?_
  refine WP.cond (by first | rfl | (simp; rfl)) (fun hb => ?_) (fun hb => ?_)
  · try simp at hb
    refine WP.skip ?_
    refine WP.block ?_
    refine WP.regN prg (by kernel_rfl) ?_ -- region 2
    refine WN.op prg (by simp) (by simp; rfl) (by simp) ?_
    refine WN.op prg (by simp) (by simp; rfl) (by simp) ?_
    refine WN.op prg (by simp) (by simp; rfl) (by simp) ?_
    refine WN.keep [1, 2, 3, 4, 5] ?_
    have hps : pos (g[q]?.getD 0) = true := by have := hb.2; simp only [pos, decide_eq_true_eq]; exact this
    refine ⟨by omega, q + 1, ⟨by omega, ?_⟩, ?_⟩
    · rw [← hs, show g.length - q = (g.length - (q + 1)) + 1 by omega, search_pos hps]
    · simp [wrap_id (n := (q : Int) + 1) (by omega) (by omega)]
  · try simp at hb
    refine WP.exit ?_
    refine WP.seq ?_
    refine WP.seq ?_
    refine WP.regN prg (by kernel_rfl) ?_ -- region 3
    refine WN.op prg (by simp) (by simp; rfl) (by simp) ?_
    refine WN.op prg (by simp) (by simp; rfl) (by simp) ?_
    refine WN.op prg (by simp) (by simp; rfl) (by simp) ?_
    refine WN.op prg (by simp) (by simp; rfl) (by simp) ?_
    refine WN.keep [1, 2, 3, 4, 5, 28] ?_
    refine WP.cond (by first | rfl | (simp; rfl)) (fun hb => ?_) (fun hb => ?_)
    · try simp at hb
      refine WP.seq ?_
      refine WP.reg prg (by kernel_rfl) ?_ -- region 4 DRAWS
      refine WS.d (by simp) (by simp; rfl) (by simp) (by kernel_rfl) ?_
      refine WS.d (by simp) (by simp; rfl) (by simp) (by kernel_rfl) ?_
      refine WS.d (by simp) (by simp; rfl) (by simp) (by kernel_rfl) ?_
      refine WS.d (by simp) (by simp; rfl) (by first | (simp; done) | (simp; omega)) (by kernel_rfl) ?_
      refine WS.d (by simp) (by simp; rfl) (by simp) (by kernel_rfl) ?_
      refine WS.d (by simp) (by simp; rfl) (by simp) (by kernel_rfl) ?_
      refine WS.d (by simp) (by simp; rfl) (by first | (simp; done) | (simp; omega)) (by kernel_rfl) ?_
      refine WS.d (by simp) (by simp; rfl) (by simp) (by kernel_rfl) ?_
      refine WS.d (by simp) (by simp; rfl) (by first | (simp; done) | (simp; omega)) (by kernel_rfl) ?_
      refine WS.d (by simp) (by simp; rfl) (by simp) (by kernel_rfl) ?_
      refine WS.d (by simp) (by simp; rfl) (by first | (simp; done) | (simp; omega)) (by kernel_rfl) ?_
      refine WS.keep [] ?_
      refine WP.ret (DoneQ.ret [] (by simp; rfl) (by simp; rfl) ?_)
      have hqe : q = g.length := by omega
      have e : search p.size p.rules (g.length - q0) q0 g = [g] := by rw [← hs, hqe, Nat.sub_self]; rfl
      have e2 : tkL most out [g] = out ++ [g] := List.take_of_length_le (by simp; omega)
      rw [e, e2]
      exact ⟨1, fr, by simp [List.take_of_length_le], by simp⟩
    · try simp at hb
      refine WP.skip ?_
      refine WP.seq ?_
      refine WP.regN prg (by kernel_rfl) ?_ -- region 5
      refine WN.op prg (by simp) (by simp; rfl) (by simp) ?_
      refine WN.keep [1, 2, 3, 4, 5, 10] ?_
      refine WP.block ?_
      have hqe : q < g.length := by omega
      have hz : pos (g[q]?.getD 0) = false := by
        have h1 : g[q]?.getD 0 ≤ 0 := ‹q < g.length → _› hqe
        simp only [pos, decide_eq_false_iff_not]
        omega
      have e0 : search p.size p.rules (g.length - q0) q0 g = searchV p.size p.rules (g.length - (q + 1)) q g p.size.toNat := by
        rw [← hs, show g.length - q = (g.length - (q + 1)) + 1 by omega, search_zero hz]
      rw [e0]
      refine WP.loopX (α := Nat × Bool) (p.size.toNat) (fun k vf => [(10, .v (.c (.int .i64 ((k : Int) + 1))))]) (fun k vf => [(8000, .box 0 [.osl 8001 vf.1 0 (tkL most out (searchV p.size p.rules (g.length - (q + 1)) q g k)).length]), (8001, .arr vf.1 vf.2 (.recs 1 (rowsD (tkL most out (searchV p.size p.rules (g.length - (q + 1)) q g k)))))]) (fun k vf => True) ((0, fr)) (fun k a => by simp [putAll]; rfl) (fun k a => by simp; rfl) (by trivial) (by simp) (by simp [searchV, tkL_nil (show out.length ≤ most by omega)]) ?_
      rintro k vf hk _
      refine WP.seq ?_
      refine WP.seq ?_
      refine WP.regN prg (by kernel_rfl) ?_ -- region 6
      refine WN.op prg (by simp) (by simp; rfl) (by simp) ?_
      refine WN.op prg (by simp) (by simp; rfl) (by simp) ?_
      refine WN.op prg (by simp) (by simp; rfl) (by first | (simp; done) | (simp; omega)) ?_
      refine WN.op prg (by simp) (by simp; rfl) (by simp) ?_
      refine WN.op prg (by simp) (by simp; rfl) (by simp) ?_
      apply WN.join (t := 50) 7 43
      · first | rfl | (simp; rfl)
      · intro hg43
        refine WN.op prg (by simp) (by simp; rfl) (by simp) ?_
        refine WN.op prg (by simp) (by simp; rfl) (by simp) ?_
        refine WN.op prg (by simp) (by simp; rfl) (by first | (simp; done) | (simp; omega)) ?_
        refine WN.op prg (by simp) (by simp; rfl) (by simp) ?_
        refine WN.op prg (by simp) (by simp; rfl) (by simp) ?_
        refine WN.op prg (by simp) (by simp; rfl) (by simp) ?_
        refine WN.op prg (by simp) (by simp; rfl) (by simp) ?_
        exact WN.keep [50, 1, 2, 3, 4, 5, 10] rfl
      · intro hg43
        refine WN.skip prg (by simp) ?_
        refine WN.skip prg (by simp) ?_
        refine WN.skip prg (by simp) ?_
        refine WN.skip prg (by simp) ?_
        refine WN.skip prg (by simp) ?_
        refine WN.skip prg (by simp) ?_
        refine WN.op prg (by simp) (by simp; rfl) (by simp) ?_
        exact WN.keep [50, 1, 2, 3, 4, 5, 10] rfl
      refine WN.keep [1, 2, 3, 4, 5, 10, 50] ?_
      refine WP.cond (by first | rfl | (simp; rfl)) (fun hb => ?_) (fun hb => ?_)
      · try simp at hb
        refine WP.skip ?_
        refine WP.seq ?_
        refine WP.block ?_
        refine WP.seq ?_
        refine WP.regN prg (by kernel_rfl) ?_ -- region 8
        refine WN.op prg (by simp) (by simp; rfl) (by simp) ?_
        refine WN.op prg (by simp) (by simp; rfl) (by simp) ?_
        refine WN.op prg (by simp) (by simp; rfl) (by first | (simp; done) | (simp; omega)) ?_
        refine WN.op prg (by simp) (by simp; rfl) (by simp) ?_
        refine WN.keep [1, 2, 3, 4, 5, 10, 11] ?_
        refine WP.seq ?_
        refine WP.regN prg (by kernel_rfl) ?_ -- region 9
        refine WN.op prg (by simp) (by simp; rfl) (by simp) ?_
        refine WN.op prg (by simp) (by simp; rfl) (by simp) ?_
        refine WN.op prg (by simp) (by simp; rfl) (by simp) ?_
        refine WN.op prg (by simp) (by simp; rfl) (by first | (simp; done) | (simp; omega)) ?_
        refine WN.op prg (by simp) (by simp; rfl) (by first | (simp; done) | (simp; omega)) ?_
        refine WN.keep [1, 2, 3, 4, 5, 10, 11] ?_
        refine WP.seq ?_
        refine WP.regN prg (by kernel_rfl) ?_ -- region 10
        refine WN.op prg (by simp) (by simp; rfl) (by first | (simp; done) | (simp; omega)) ?_
        refine WN.op prg (by simp) (by simp; rfl) (by simp) ?_
        have hgs : gridOk (g.set q ((k : Int) + 1)) p.size = true := gridOk_set hg q (by omega) (by omega)
        have hes := ext.set he hz ((k : Int) + 1)
        have hfe : fitsP p (g.set q ((k : Int) + 1)) = fits0 p.size p.rules (g.set q ((k : Int) + 1)) := by simp [fitsP, hes.agree]
        refine WN.call prg [] [424] (by simp) rfl (by simp; rfl) (by simp) (CallsA.at (by simp [List.take_of_length_le]) (by simp) (c_l5Fits p (g.set q ((k : Int) + 1)) hp hgs)) ?_
        rintro _ _ ⟨rfl, rfl⟩
        refine ⟨_, by simp; rfl, ?_⟩
        refine WN.keep [1, 2, 3, 4, 5, 10, 11, 62] ?_
        refine WP.cond (by first | rfl | (simp; rfl)) (fun hb => ?_) (fun hb => ?_)
        · try simp at hb
          refine WP.regN prg (by kernel_rfl) ?_ -- region 11
          refine WN.op prg (by simp) (by simp; rfl) (by first | (simp; done) | (simp; omega)) ?_
          refine WN.op prg (by simp) (by simp; rfl) (by simp) ?_
          refine WN.op prg (by simp) (by simp; rfl) (by simp) ?_
          refine WN.op prg (by simp) (by simp; rfl) (by simp) ?_
          refine WN.op prg (by simp) (by simp; rfl) (by simp) ?_
          refine WN.op prg (by simp) (by simp; rfl) (by simp) ?_
          have hw : IntKind.i64.wrap ((q : Int) + 1) = ((q + 1 : Nat) : Int) := wrap_id (by omega) (by omega)
          have hfy : fits0 p.size p.rules (g.set q ((k : Int) + 1)) = true := by rw [← hfe]; exact hb
          refine WN.call prg [8000, 8001, 424] [] (by simp) rfl (by simp; rfl) (by simp) (CallsA.at (by simp [hw]) (by simp) (ih (q + 1) (g.set q ((k : Int) + 1)) (tkL most out (searchV p.size p.rules (g.length - (q + 1)) q g k)) (D.flatRow (.recs 1 (rowsD (tkL most out (searchV p.size p.rules (g.length - (q + 1)) q g k))))) (by omega) (by omega) (by simp) hgs hes (by omega))) ?_
          rintro _ _ ⟨v', fr', rfl, rfl⟩
          refine ⟨_, by simp; rfl, ?_⟩
          refine WN.keep [1, 2, 3, 4, 5, 10] ?_
          refine WP.regN prg (by kernel_rfl) ?_ -- region 7
          refine WN.tidy [1, 2, 3, 4, 5, 10] [8000, 8001, 40] (by simp; rfl) ?_
          refine WN.op prg (by simp) (by simp; rfl) (by simp) ?_
          refine WN.op prg (by simp) (by simp; rfl) (by simp) ?_
          refine WN.op prg (by simp) (by simp; rfl) (by simp) ?_
          refine WN.keep [1, 2, 3, 4, 5, 10] ?_
          refine ⟨by omega, (vf.1 + v', fr' || (rowsD (tkL most out (searchV p.size p.rules (g.length - (q + 1)) q g k ++ search p.size p.rules (g.length - (q + 1)) (q + 1) (g.set q ((k : Int) + 1))))).all fun x => x.all D.flat), trivial, ?_⟩
          simp [searchV_succ, hfy, tkL_app, wrap_id (n := (k : Int) + 1 + 1) (by omega) (by omega)]
        · try simp at hb
          refine WP.skip ?_
          refine WP.regN prg (by kernel_rfl) ?_ -- region 7
          refine WN.tidy [1, 2, 3, 4, 5, 10] [8000, 8001, 40] (by simp; rfl) ?_
          refine WN.op prg (by simp) (by simp; rfl) (by simp) ?_
          refine WN.op prg (by simp) (by simp; rfl) (by simp) ?_
          refine WN.op prg (by simp) (by simp; rfl) (by simp) ?_
          refine WN.keep [1, 2, 3, 4, 5, 10] ?_
          have hfn : fits0 p.size p.rules (g.set q ((k : Int) + 1)) = false := by rw [← hfe]; exact hb
          refine ⟨by omega, vf, trivial, ?_⟩
          simp [searchV_succ, hfn, wrap_id (n := (k : Int) + 1 + 1) (by omega) (by omega)]
      · try simp at hb
        refine WP.exit ?_
        have hfin : tkL most out (searchV p.size p.rules (g.length - (q + 1)) q g p.size.toNat) = tkL most out (searchV p.size p.rules (g.length - (q + 1)) q g k) := by
          by_cases hkn : (k : Int) + 1 ≤ p.size
          · obtain ⟨t, ht⟩ := searchV_prefix p.size p.rules (g.length - (q + 1)) q g (show k ≤ p.size.toNat by omega)
            rw [ht, tkL_full (hb hkn)]
          · rw [show k = p.size.toNat by omega]
        rw [hfin]
        refine DoneQ.nrm [] (by simp; rfl) (by simp; rfl) ⟨vf.1, vf.2, by simp, by simp⟩
theorem c_l5SearchG (p : Puzzle) (hp : puzzleOk p = true) (most : Nat) (hm : most ≤ 1000) : ∀ (d : Nat) (g : List Int) (q : Nat) (out : List (List Int)) (fr : Bool), q + d = g.length → gridOk g p.size = true → ext p.given g → out.length < most →
    CallsA Try.prog 186 [p.v false, .c (.osl 8002 0 0 g.length), .c (.int .i64 (q)), .c (.int .i64 (most)), .c (.ptr 8000 0 0 0)] (outG fr 0 out g) (SPostG g (tkL most out (search p.size p.rules (g.length - q) q g))) := by
  intro d
  induction d using Nat.strongRecOn with
  | _ d ih =>
    intro g q out fr hd hg he ho
    refine w_l5SearchG p g q most out fr hp hg he (by omega) hm ho fun q' g' out' fr' h1 h2 h3 h4 h5 h6 => ?_
    have := ih (g.length - q') (by omega) g' q' out' fr' (by omega) h4 h5 h6
    rwa [h3] at this
theorem c_l5Search (p : Puzzle) (hp : puzzleOk p = true) (most : Nat) (hm : most ≤ 1000) (g : List Int) (out : List (List Int)) (fr : Bool) (hg : gridOk g p.size = true) (he : ext p.given g) (ho : out.length < most) :
    CallsA Try.prog 186 [p.v false, .c (.dsl false (.ints .i64 (g))), .c (.int .i64 ((0 : Nat))), .c (.int .i64 (most)), .c (.ptr 8000 0 0 0)] (outH fr 0 out) (SPost (tkL most out (search p.size p.rules g.length 0 g))) := by
  refine w_l5Search p g 0 most out fr hp hg he (by omega) hm ho fun q' g' out' fr' h1 h2 h3 h4 h5 h6 => ?_
  have := c_l5SearchG p hp most hm (g'.length - q') g' q' out' fr' (by omega) h4 h5 h6
  rwa [h3] at this
end Go.Proofs.Ytaicenafkjbnoaa

