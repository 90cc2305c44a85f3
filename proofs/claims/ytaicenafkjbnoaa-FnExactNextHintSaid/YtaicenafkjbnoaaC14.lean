/- Contracts: hidden values and pairs (reference). -/
import Derived.Test.YtaicenafkjbnoaaC13
set_option linter.unusedVariables false
set_option linter.unusedSimpArgs false
namespace Go.Proofs.Ytaicenafkjbnoaa
open Go Go.AM
set_option maxRecDepth 100000

theorem mline {ms : List Int} {n : Int} (hm : masksOk ms n = true) {k j : Nat} (hk : (k : Int) < IntKind.i64.wrap (2 * n)) (hj : j < (lineCells n k).length) :
    lineOk n k = true ∧ j < n.toNat ∧ 0 ≤ (lineCells n k)[j]?.getD 0 ∧ (lineCells n k)[j]?.getD 0 < ms.length ∧ 0 ≤ ms[((lineCells n k)[j]?.getD 0).toNat]?.getD 0 ∧ ms[((lineCells n k)[j]?.getD 0).toNat]?.getD 0 < 32 ∧
    maskOk 4 (ms[((lineCells n k)[j]?.getD 0).toNat]?.getD 0) = true ∧ (lineCells n k)[j]? = some ((lineCells n k)[j]?.getD 0) := by
  obtain ⟨h2, h4, hl, _⟩ := masksOk_iff.1 hm
  rw [wrap2 h2 h4] at hk
  have hL : lineOk n k = true := lineOk_iff.2 ⟨h2, h4, by omega, hk⟩
  rw [lineCells_len hL] at hj
  have hc := lineCell_lt hL hj
  rw [lineCells_get hL hj]
  simp only [Option.getD_some]
  have := masks32 hm (k := (lineCell n k j).toNat) (by omega)
  exact ⟨hL, hj, hc.1, by omega, this.1, this.2.1, this.2.2, trivial⟩
def cellsV (ms : List Int) (n line v : Int) (j : Nat) : List Int := ((lineCells n line).take j).filter fun c => bit (getI ms c) v
def lastI (l : List Int) : Int := l.getLast?.getD 0
@[simp] theorem lastI_nil : lastI [] = 0 := rfl
@[simp] theorem cellsV_zero (ms : List Int) (n line v : Int) : cellsV ms n line v 0 = [] := by simp [cellsV]
theorem cellsV_yes {ms : List Int} {n line v c : Int} {j : Nat} (hc : (lineCells n line)[j]? = some c) (h : bit (getI ms c) v = true) : cellsV ms n line v (j + 1) = cellsV ms n line v j ++ [c] := by
  simp [cellsV, take_snoc hc, List.filter_append, List.filter_cons, h]
theorem cellsV_no {ms : List Int} {n line v c : Int} {j : Nat} (hc : (lineCells n line)[j]? = some c) (h : bit (getI ms c) v = false) : cellsV ms n line v (j + 1) = cellsV ms n line v j := by
  simp [cellsV, take_snoc hc, List.filter_append, List.filter_cons, h]
@[simp] theorem lastI_snoc (l : List Int) (c : Int) : lastI (l ++ [c]) = c := by simp [lastI]
theorem cellsV_le (ms : List Int) (n line v : Int) (j : Nat) : (cellsV ms n line v j).length ≤ j := by
  unfold cellsV
  exact Nat.le_trans (List.length_filter_le _ _) (by simp; omega)
theorem cellsV_mem {ms : List Int} {n line v c : Int} {j : Nat} (h : c ∈ cellsV ms n line v j) : c ∈ lineCells n line := List.mem_of_mem_take (List.mem_filter.1 h).1
theorem lineCells_in {n line c : Int} (h : lineOk n line = true) (hc : c ∈ lineCells n line) : 0 ≤ c ∧ c < n * n := by
  simp only [lineCells, h, if_true, List.mem_map, List.mem_range] at hc
  obtain ⟨k, hk, rfl⟩ := hc
  exact lineCell_lt h hk
theorem lastI_in {ms : List Int} {n line v : Int} {j : Nat} (hL : lineOk n line = true) (h : (cellsV ms n line v j).length = 1) : 0 ≤ lastI (cellsV ms n line v j) ∧ lastI (cellsV ms n line v j) < n * n := by
  match hq : cellsV ms n line v j, h with
  | [c], _ =>
    have : c ∈ cellsV ms n line v j := by rw [hq]; simp
    simpa [lastI] using lineCells_in hL (cellsV_mem this)
theorem hid1_one {ms out : List Int} {n line v : Int} (h : (cellsV ms n line v (lineCells n line).length).length = 1) :
    hid1 ms n line out v = out.set (lastI (cellsV ms n line v (lineCells n line).length)).toNat (andI (getI out (lastI (cellsV ms n line v (lineCells n line).length))) (one v)) := by
  unfold cellsV at *
  rw [List.take_length] at *
  unfold hid1
  match hq : (lineCells n line).filter (fun c => bit (getI ms c) v), h with
  | [c], _ => simp [lastI]
theorem hid1_no {ms out : List Int} {n line v : Int} (h : (cellsV ms n line v (lineCells n line).length).length ≠ 1) : hid1 ms n line out v = out := by
  unfold cellsV at *
  rw [List.take_length] at *
  unfold hid1
  split
  · rename_i c hc
    rw [hc] at h
    simp at h
  · rfl
theorem hid1_ok {ms out : List Int} {n line v : Int} {N : Nat} (h : FOk N out) : FOk N (hid1 ms n line out v) := by
  unfold hid1
  split
  · rename_i c _
    have h1 := h.get c.toNat
    have h2 := andI_le (b := one v) h1.1
    exact h.set _ h2.1 (by have := h2.2; unfold getI at *; omega)
  · exact h
theorem hidL_ok {ms out : List Int} {n : Int} {N : Nat} (l : Nat) (h : FOk N out) : FOk N (hidL ms n out l) := foldl_ok (P := FOk N) (fun b a hb => hid1_ok hb) _ _ h
theorem c_specNarrow2 (ms : List Int) (n : Int) (hm : masksOk ms n = true) : CallsA Try.prog 127 [.c (.dsl false (.ints .i64 (ms))), .c (.int .i64 (n))] [] fun r ho => ho = [] ∧ r = .v (.c (.dsl true (.ints .i64 (narrow2 ms n)))) := by
  have hml := masks_len hm
  obtain ⟨h2, h4, hll, hall⟩ := masksOk_iff.1 hm
  have hw2 := wrap2 h2 h4
  refine CallsA.of (tv := tyOf Try.prog) (fn := Try.f127) prg.tv Try.func127 rfl rfl (by simp) ?_
  refine WP.seq ?_
  refine WP.regN prg (by kernel_rfl) ?_ -- region 0
  refine WN.op prg (by simp) (by simp; rfl) (by simp) ?_
  refine WN.keep [0, 1] ?_
  refine WP.seq ?_
  refine WP.seq ?_
  refine WP.regN prg (by kernel_rfl) ?_ -- region 1
  refine WN.op prg (by simp) (by simp; rfl) (by simp) ?_
  refine WN.op prg (by simp) (by simp; rfl) (by simp) ?_
  refine WN.call prg [] [] (by simp) rfl (by simp; rfl) (by simp) (CallsA.at (by simp) (by simp) (c_specMasksValid ms n hm)) ?_
  rintro _ _ ⟨rfl, rfl⟩
  refine ⟨_, by simp; rfl, ?_⟩
  refine WN.op prg (by simp) (by simp; rfl) (by simp) ?_
  refine WN.keep [0, 1, 15] ?_
  refine WP.cond (by first | rfl | (simp; rfl)) (fun hb => ?_) (fun hb => ?_)
  · exact absurd hb (by simp)
  · try simp at hb
    refine WP.skip ?_
    refine WP.seq ?_
    refine WP.regN prg (by kernel_rfl) ?_ -- region 3
    refine WN.op prg (by simp) (by simp; rfl) (by simp) ?_
    refine WN.call prg [] [] (by simp) rfl (by simp; rfl) (by simp) (CallsA.at (by simp) (by simp) (c_l6Copy ms (by omega))) ?_
    rintro _ _ ⟨rfl, rfl⟩
    refine ⟨_, by simp; rfl, ?_⟩
    refine WN.op prg (by simp) (by simp; rfl) (by simp) ?_
    refine WN.keep [0, 1, 5] ?_
    refine WP.seq ?_
    refine WP.seq ?_
    refine WP.regN prg (by kernel_rfl) ?_ -- region 4
    refine WN.op prg (by simp) (by simp; rfl) (by simp) ?_
    refine WN.keep [0, 1, 5, 6] ?_
    refine WP.block ?_
    refine WP.loopU ((2 * n).toNat) (fun k => [(6, .v (.c (.int .i64 (k))))]) (fun k => [(144, .arr 0 true (.ints .i64 ((List.range k).foldl (hidL ms n) ms)))]) (fun k => True) (fun k => by simp [putAll]; rfl) (fun k => by simp; rfl) (by simp) (by simp) (by simp) ?_
    intro k hk _
    have hok : FOk ms.length ((List.range k).foldl (hidL ms n) ms) := foldl_ok (P := FOk ms.length) (fun b a hb => hidL_ok a hb) _ _ (fok_masks hm)
    refine WP.seq ?_
    refine WP.seq ?_
    refine WP.regN prg (by kernel_rfl) ?_ -- region 5
    refine WN.op prg (by simp) (by simp; rfl) (by simp) ?_
    refine WN.op prg (by simp) (by simp; rfl) (by simp) ?_
    refine WN.op prg (by simp) (by simp; rfl) (by simp) ?_
    refine WN.op prg (by simp) (by simp; rfl) (by simp) ?_
    refine WN.keep [0, 1, 5, 6, 22] ?_
    refine WP.cond (by first | rfl | (simp; rfl)) (fun hb => ?_) (fun hb => ?_)
    · try simp at hb
      refine WP.skip ?_
      refine WP.seq ?_
      refine WP.block ?_
      refine WP.seq ?_
      refine WP.regN prg (by kernel_rfl) ?_ -- region 7
      refine WN.op prg (by simp) (by simp; rfl) (by simp) ?_
      refine WN.op prg (by simp) (by simp; rfl) (by simp) ?_
      have hbk := hb
      refine WN.call prg [] [] (by simp) rfl (by simp; rfl) (by simp) (CallsA.at (by simp) (by simp) (c_specLineCells n k)) ?_
      rintro _ _ ⟨rfl, rfl⟩
      refine ⟨_, by simp; rfl, ?_⟩
      refine WN.op prg (by simp) (by simp; rfl) (by simp) ?_
      refine WN.keep [0, 1, 5, 6, 7] ?_
      refine WP.seq ?_
      refine WP.regN prg (by kernel_rfl) ?_ -- region 8
      refine WN.op prg (by simp) (by simp; rfl) (by simp) ?_
      refine WN.keep [0, 1, 5, 6, 7, 8] ?_
      refine WP.block ?_
      have hL : lineOk n k = true := lineOk_iff.2 ⟨h2, h4, by omega, by rw [hw2] at hbk; exact hbk⟩
      have hcl := lineCells_len hL
      refine WP.loopU (n.toNat) (fun q => [(8, .v (.c (.int .i64 ((q : Int) + 1))))]) (fun q => [(144, .arr 0 true (.ints .i64 ((List.range q).foldl (hidV ms n k) ((List.range k).foldl (hidL ms n) ms))))]) (fun q => True) (fun k => by simp [putAll]; rfl) (fun k => by simp; rfl) (by simp) (by simp) (by simp) ?_
      intro q hk _
      have hoq : FOk ms.length ((List.range q).foldl (hidV ms n k) ((List.range k).foldl (hidL ms n) ms)) := foldl_ok (P := FOk ms.length) (fun b a hb => hid1_ok hb) _ _ hok
      refine WP.seq ?_
      refine WP.seq ?_
      refine WP.regN prg (by kernel_rfl) ?_ -- region 9
      refine WN.op prg (by simp) (by simp; rfl) (by simp) ?_
      refine WN.op prg (by simp) (by simp; rfl) (by simp) ?_
      refine WN.op prg (by simp) (by simp; rfl) (by simp) ?_
      refine WN.keep [0, 1, 5, 6, 7, 8, 30] ?_
      refine WP.cond (by first | rfl | (simp; rfl)) (fun hb => ?_) (fun hb => ?_)
      · try simp at hb
        refine WP.skip ?_
        refine WP.seq ?_
        refine WP.block ?_
        refine WP.seq ?_
        refine WP.regN prg (by kernel_rfl) ?_ -- region 11
        refine WN.op prg (by simp) (by simp; rfl) (by simp) ?_
        refine WN.keep [0, 1, 5, 6, 7, 8, 9] ?_
        refine WP.seq ?_
        refine WP.regN prg (by kernel_rfl) ?_ -- region 12
        refine WN.op prg (by simp) (by simp; rfl) (by simp) ?_
        refine WN.keep [0, 1, 5, 6, 7, 8, 9, 10] ?_
        refine WP.seq ?_
        refine WP.seq ?_
        refine WP.regN prg (by kernel_rfl) ?_ -- region 13
        refine WN.op prg (by simp) (by simp; rfl) (by simp) ?_
        refine WN.keep [0, 1, 5, 6, 7, 8, 9, 10, 11] ?_
        refine WP.block ?_
        refine WP.loopU (n.toNat) (fun j => [(9, .v (.c (.int .i64 ((cellsV ms n k ((q : Int) + 1) j).length)))), (10, .v (.c (.int .i64 (lastI (cellsV ms n k ((q : Int) + 1) j))))), (11, .v (.c (.int .i64 (j))))]) (fun j => []) (fun j => True) (fun k => by simp [putAll]; rfl) (fun k => by simp; rfl) (by simp) (by simp) (by simp) ?_
        intro j hk _
        have hm1 := fun h : j < (lineCells n k).length => mline hm hbk h
        have hcv := cellsV_le ms n k ((q : Int) + 1) j
        refine WP.seq ?_
        refine WP.seq ?_
        refine WP.regN prg (by kernel_rfl) ?_ -- region 14
        refine WN.op prg (by simp) (by simp; rfl) (by simp) ?_
        refine WN.op prg (by simp) (by simp; rfl) (by simp) ?_
        refine WN.op prg (by simp) (by simp; rfl) (by simp) ?_
        refine WN.op prg (by simp) (by simp; rfl) (by simp) ?_
        refine WN.keep [0, 1, 5, 6, 7, 8, 9, 10, 11, 36] ?_
        refine WP.cond (by first | rfl | (simp; rfl)) (fun hb => ?_) (fun hb => ?_)
        · try simp at hb
          refine WP.skip ?_
          refine WP.seq ?_
          refine WP.block ?_
          refine WP.seq ?_
          refine WP.regN prg (by kernel_rfl) ?_ -- region 16
          refine WN.op prg (by simp) (by simp; rfl) (by simp) ?_
          refine WN.op prg (by simp) (by simp; rfl) (by simp) ?_
          refine WN.op prg (by simp) (by simp; rfl) (by simp) ?_
          refine WN.op prg (by simp) (by simp; rfl) (by first | (simp; done) | (simp; omega)) ?_
          refine WN.op prg (by simp) (by simp; rfl) (by first | (simp; done) | (simp; omega)) ?_
          refine WN.op prg (by simp) (by simp; rfl) (by first | (simp; done) | (simp; omega)) ?_
          refine WN.op prg (by simp) (by simp; rfl) (by first | (simp; done) | (simp; omega)) ?_
          refine WN.op prg (by simp) (by simp; rfl) (by simp) ?_
          refine WN.op prg (by simp) (by simp; rfl) (by first | (simp; done) | (simp; omega)) ?_
          refine WN.op prg (by simp) (by simp; rfl) (by first | (simp; done) | (simp; omega)) ?_
          refine WN.op prg (by simp) (by simp; rfl) (by simp) ?_
          refine WN.keep [0, 1, 5, 6, 7, 8, 9, 10, 11, 49] ?_
          refine WP.cond (by first | rfl | (simp; rfl)) (fun hb => ?_) (fun hb => ?_)
          · try simp at hb
            refine WP.seq ?_
            refine WP.regN prg (by kernel_rfl) ?_ -- region 17
            refine WN.op prg (by simp) (by simp; rfl) (by simp) ?_
            refine WN.op prg (by simp) (by simp; rfl) (by simp) ?_
            refine WN.op prg (by simp) (by simp; rfl) (by simp) ?_
            refine WN.keep [0, 1, 5, 6, 7, 8, 9, 11] ?_
            refine WP.regN prg (by kernel_rfl) ?_ -- region 18
            refine WN.op prg (by simp) (by simp; rfl) (by simp) ?_
            refine WN.op prg (by simp) (by simp; rfl) (by simp) ?_
            refine WN.op prg (by simp) (by simp; rfl) (by first | (simp; done) | (simp; omega)) ?_
            refine WN.op prg (by simp) (by simp; rfl) (by first | (simp; done) | (simp; omega)) ?_
            refine WN.op prg (by simp) (by simp; rfl) (by simp) ?_
            refine WN.keep [0, 1, 5, 6, 7, 8, 9, 10, 11] ?_
            refine WP.regN prg (by kernel_rfl) ?_ -- region 15
            refine WN.op prg (by simp) (by simp; rfl) (by simp) ?_
            refine WN.op prg (by simp) (by simp; rfl) (by simp) ?_
            refine WN.op prg (by simp) (by simp; rfl) (by simp) ?_
            refine WN.keep [0, 1, 5, 6, 7, 8, 9, 10, 11] ?_
            obtain ⟨_, hjn, c0, c1, m0, m1, mk, hcc⟩ := hm1 (by omega)
            have hbt := bit_rem_k m0 m1 (k := q) (by omega)
            rw [decide_eq_true hb] at hbt
            exact ⟨by omega, trivial, by simp [cellsV_yes hcc (show bit (getI ms _) _ = true from hbt.symm), wrap_id (n := (j : Int) + 1) (by omega) (by omega), wrap_id (n := ((cellsV ms n k ((q : Int) + 1) j).length : Int) + 1) (by omega) (by omega)]⟩
          · try simp at hb
            refine WP.skip ?_
            refine WP.regN prg (by kernel_rfl) ?_ -- region 15
            refine WN.op prg (by simp) (by simp; rfl) (by simp) ?_
            refine WN.op prg (by simp) (by simp; rfl) (by simp) ?_
            refine WN.op prg (by simp) (by simp; rfl) (by simp) ?_
            refine WN.keep [0, 1, 5, 6, 7, 8, 9, 10, 11] ?_
            obtain ⟨_, hjn, c0, c1, m0, m1, mk, hcc⟩ := hm1 (by omega)
            have hbt := bit_rem_k m0 m1 (k := q) (by omega)
            rw [decide_eq_false hb] at hbt
            exact ⟨by omega, trivial, by simp [cellsV_no hcc (show bit (getI ms _) _ = false from hbt.symm), wrap_id (n := (j : Int) + 1) (by omega) (by omega)]⟩
        · try simp at hb
          refine WP.exit ?_
          refine WP.seq ?_
          refine WP.regN prg (by kernel_rfl) ?_ -- region 19
          refine WN.op prg (by simp) (by simp; rfl) (by simp) ?_
          refine WN.op prg (by simp) (by simp; rfl) (by simp) ?_
          refine WN.keep [0, 1, 5, 6, 7, 8, 10, 57] ?_
          refine WP.cond (by first | rfl | (simp; rfl)) (fun hb => ?_) (fun hb => ?_)
          · try simp at hb
            refine WP.reg prg (by kernel_rfl) ?_ -- region 20 DRAWS
            obtain ⟨l0, l1⟩ := lastI_in (ms := ms) (v := (q : Int) + 1) (j := j) hL (by omega)
            have hoq1 := hoq.1
            refine WS.d (by simp) (by simp; rfl) (by simp) (by kernel_rfl) ?_
            refine WS.d (by simp) (by simp; rfl) (by simp) (by kernel_rfl) ?_
            refine WS.d (by simp) (by simp; rfl) (by simp) (by kernel_rfl) ?_
            refine WS.d (by simp) (by simp; rfl) (by simp) (by kernel_rfl) ?_
            refine WS.d (by simp) (by simp; rfl) (by first | (simp; done) | (simp; omega)) (by kernel_rfl) ?_
            refine WS.d (by simp) (by simp; rfl) (by first | (simp; done) | (simp; omega)) (by kernel_rfl) ?_
            refine WS.d (by simp) (by simp; rfl) (by simp) (by kernel_rfl) ?_
            refine WS.d (by simp) (by simp; rfl) (by first | (simp; done) | (simp; omega)) (by kernel_rfl) ?_
            refine WS.d (by simp) (by simp; rfl) (by simp) (by kernel_rfl) ?_
            refine WS.d (by simp) (by simp; rfl) (by first | (simp; done) | (simp; omega)) (by kernel_rfl) ?_
            refine WS.d (by simp) (by simp; rfl) (by first | (simp; done) | (simp; omega)) (by kernel_rfl) ?_
            refine WS.keep [0, 1, 5, 6, 7, 8] ?_
            refine WP.regN prg (by kernel_rfl) ?_ -- region 10
            refine WN.op prg (by simp) (by simp; rfl) (by simp) ?_
            refine WN.op prg (by simp) (by simp; rfl) (by simp) ?_
            refine WN.op prg (by simp) (by simp; rfl) (by simp) ?_
            refine WN.keep [0, 1, 5, 6, 7, 8] ?_
            have hjl : j = (lineCells n k).length := by omega
            have hone : (cellsV ms n k ((q : Int) + 1) (lineCells n k).length).length = 1 := by rw [← hjl]; omega
            have e1 := shl_k (k := q) (by omega)
            have e2 := one_le (v := (q : Int) + 1) (by omega) (by omega)
            have g1 := hoq.get (lastI (cellsV ms n k ((q : Int) + 1) j)).toNat
            have e3 := bits_and g1.1 (by omega) (show 0 ≤ one ((q : Int) + 1) by omega) (by omega)
            refine ⟨by omega, trivial, ?_⟩
            rw [foldl_range]
            simp only [hidV]
            rw [hid1_one hone, ← hjl]
            simp [e1, e3, getI, wrap_id (n := (q : Int) + 1 + 1) (by omega) (by omega)]
          · try simp at hb
            refine WP.skip ?_
            refine WP.regN prg (by kernel_rfl) ?_ -- region 10
            refine WN.op prg (by simp) (by simp; rfl) (by simp) ?_
            refine WN.op prg (by simp) (by simp; rfl) (by simp) ?_
            refine WN.op prg (by simp) (by simp; rfl) (by simp) ?_
            refine WN.keep [0, 1, 5, 6, 7, 8] ?_
            have hjl : j = (lineCells n k).length := by omega
            have hone : (cellsV ms n k ((q : Int) + 1) (lineCells n k).length).length ≠ 1 := by rw [← hjl]; omega
            refine ⟨by omega, trivial, ?_⟩
            rw [foldl_range]
            simp only [hidV]
            rw [hid1_no hone]
            simp [wrap_id (n := (q : Int) + 1 + 1) (by omega) (by omega)]
      · try simp at hb
        refine WP.exit ?_
        refine WP.regN prg (by kernel_rfl) ?_ -- region 6
        refine WN.op prg (by simp) (by simp; rfl) (by simp) ?_
        refine WN.op prg (by simp) (by simp; rfl) (by simp) ?_
        refine WN.op prg (by simp) (by simp; rfl) (by simp) ?_
        refine WN.keep [0, 1, 5, 6] ?_
        have hqn : q = n.toNat := by omega
        exact ⟨by omega, trivial, by simp [foldl_range, hidL, hqn, wrap_id (n := (k : Int) + 1) (by omega) (by omega)]⟩
    · try simp at hb
      refine WP.exit ?_
      refine WP.seq ?_
      refine WP.regN prg (by kernel_rfl) ?_ -- region 21
      refine WN.op prg (by simp) (by simp; rfl) (by simp) ?_
      refine WN.op prg (by simp) (by simp; rfl) (by simp) ?_
      refine WN.keep [4] ?_
      refine WP.ret (DoneQ.ret [] (by simp; rfl) (by simp; rfl) ?_)
      have hkk : k = (2 * n).toNat := by omega
      have hl := hok.1
      rw [hkk] at hl
      exact ⟨rfl, by simp [narrow2, hm, hkk, List.take_of_length_le, hl]⟩
theorem pairK_ok {ms out : List Int} {n line : Int} {i j N : Nat} (q : Nat) (h : FOk N out) : FOk N (pairK ms n line i j out q) := by
  unfold pairK
  split
  · have h1 := h.get ((lineCells n line)[q]?.getD 0).toNat
    have h2 := subI_le (b := getI ms ((lineCells n line)[i]?.getD 0)) h1.1
    exact h.set _ h2.1 (by have := h2.2; unfold getI at *; omega)
  · exact h
theorem pair1_ok {ms out : List Int} {n line : Int} {i N : Nat} (j : Nat) (h : FOk N out) : FOk N (pair1 ms n line i out j) := by
  unfold pair1
  split
  · exact foldl_ok (P := FOk N) (fun b a hb => pairK_ok a hb) _ _ h
  · exact h
theorem pairI_ok {ms out : List Int} {n line : Int} {N : Nat} (i : Nat) (h : FOk N out) : FOk N (pairI ms n line out i) := foldl_ok (P := FOk N) (fun b a hb => pair1_ok a hb) _ _ h
theorem pairL_ok {ms out : List Int} {n : Int} {N : Nat} (l : Nat) (h : FOk N out) : FOk N (pairL ms n out l) := foldl_ok (P := FOk N) (fun b a hb => pairI_ok a hb) _ _ h
theorem c_specNarrow3 (ms : List Int) (n : Int) (hm : masksOk ms n = true) : CallsA Try.prog 128 [.c (.dsl false (.ints .i64 (ms))), .c (.int .i64 (n))] [] fun r ho => ho = [] ∧ r = .v (.c (.dsl true (.ints .i64 (narrow3 ms n)))) := by
  have hml := masks_len hm
  obtain ⟨h2, h4, hll, hall⟩ := masksOk_iff.1 hm
  have hw2 := wrap2 h2 h4
  refine CallsA.of (tv := tyOf Try.prog) (fn := Try.f128) prg.tv Try.func128 rfl rfl (by simp) ?_
  refine WP.seq ?_
  refine WP.regN prg (by kernel_rfl) ?_ -- region 0
  refine WN.op prg (by simp) (by simp; rfl) (by simp) ?_
  refine WN.keep [0, 1] ?_
  refine WP.seq ?_
  refine WP.seq ?_
  refine WP.regN prg (by kernel_rfl) ?_ -- region 1
  refine WN.op prg (by simp) (by simp; rfl) (by simp) ?_
  refine WN.op prg (by simp) (by simp; rfl) (by simp) ?_
  refine WN.call prg [] [] (by simp) rfl (by simp; rfl) (by simp) (CallsA.at (by simp) (by simp) (c_specMasksValid ms n hm)) ?_
  rintro _ _ ⟨rfl, rfl⟩
  refine ⟨_, by simp; rfl, ?_⟩
  refine WN.op prg (by simp) (by simp; rfl) (by simp) ?_
  refine WN.keep [0, 1, 15] ?_
  refine WP.cond (by first | rfl | (simp; rfl)) (fun hb => ?_) (fun hb => ?_)
  · exact absurd hb (by simp)
  · try simp at hb
    refine WP.skip ?_
    refine WP.seq ?_
    refine WP.regN prg (by kernel_rfl) ?_ -- region 3
    refine WN.op prg (by simp) (by simp; rfl) (by simp) ?_
    refine WN.call prg [] [] (by simp) rfl (by simp; rfl) (by simp) (CallsA.at (by simp) (by simp) (c_l6Copy ms (by omega))) ?_
    rintro _ _ ⟨rfl, rfl⟩
    refine ⟨_, by simp; rfl, ?_⟩
    refine WN.op prg (by simp) (by simp; rfl) (by simp) ?_
    refine WN.keep [0, 1, 5] ?_
    refine WP.seq ?_
    refine WP.seq ?_
    refine WP.regN prg (by kernel_rfl) ?_ -- region 4
    refine WN.op prg (by simp) (by simp; rfl) (by simp) ?_
    refine WN.keep [0, 1, 5, 6] ?_
    refine WP.block ?_
    refine WP.loopU ((2 * n).toNat) (fun k => [(6, .v (.c (.int .i64 (k))))]) (fun k => [(144, .arr 0 true (.ints .i64 ((List.range k).foldl (pairL ms n) ms)))]) (fun k => True) (fun k => by simp [putAll]; rfl) (fun k => by simp; rfl) (by simp) (by simp) (by simp) ?_
    intro k hk _
    have hok : FOk ms.length ((List.range k).foldl (pairL ms n) ms) := foldl_ok (P := FOk ms.length) (fun b a hb => pairL_ok a hb) _ _ (fok_masks hm)
    refine WP.seq ?_
    refine WP.seq ?_
    refine WP.regN prg (by kernel_rfl) ?_ -- region 5
    refine WN.op prg (by simp) (by simp; rfl) (by simp) ?_
    refine WN.op prg (by simp) (by simp; rfl) (by simp) ?_
    refine WN.op prg (by simp) (by simp; rfl) (by simp) ?_
    refine WN.op prg (by simp) (by simp; rfl) (by simp) ?_
    refine WN.keep [0, 1, 5, 6, 22] ?_
    refine WP.cond (by first | rfl | (simp; rfl)) (fun hb => ?_) (fun hb => ?_)
    · try simp at hb
      refine WP.skip ?_
      refine WP.seq ?_
      refine WP.block ?_
      refine WP.seq ?_
      refine WP.regN prg (by kernel_rfl) ?_ -- region 7
      refine WN.op prg (by simp) (by simp; rfl) (by simp) ?_
      refine WN.op prg (by simp) (by simp; rfl) (by simp) ?_
      have hbk := hb
      refine WN.call prg [] [] (by simp) rfl (by simp; rfl) (by simp) (CallsA.at (by simp) (by simp) (c_specLineCells n k)) ?_
      rintro _ _ ⟨rfl, rfl⟩
      refine ⟨_, by simp; rfl, ?_⟩
      refine WN.op prg (by simp) (by simp; rfl) (by simp) ?_
      refine WN.keep [0, 1, 5, 6, 7] ?_
      refine WP.seq ?_
      refine WP.regN prg (by kernel_rfl) ?_ -- region 8
      refine WN.op prg (by simp) (by simp; rfl) (by simp) ?_
      refine WN.keep [0, 1, 5, 6, 7, 8] ?_
      refine WP.block ?_
      have hL : lineOk n k = true := lineOk_iff.2 ⟨h2, h4, by omega, by rw [hw2] at hbk; exact hbk⟩
      have hcl := lineCells_len hL
      refine WP.loopU (n.toNat) (fun i => [(8, .v (.c (.int .i64 (i))))]) (fun i => [(144, .arr 0 true (.ints .i64 ((List.range i).foldl (pairI ms n k) ((List.range k).foldl (pairL ms n) ms))))]) (fun i => True) (fun k => by simp [putAll]; rfl) (fun k => by simp; rfl) (by simp) (by simp) (by simp) ?_
      intro i hk _
      have hoi : FOk ms.length ((List.range i).foldl (pairI ms n k) ((List.range k).foldl (pairL ms n) ms)) := foldl_ok (P := FOk ms.length) (fun b a hb => pairI_ok a hb) _ _ hok
      refine WP.seq ?_
      refine WP.seq ?_
      refine WP.regN prg (by kernel_rfl) ?_ -- region 9
      refine WN.op prg (by simp) (by simp; rfl) (by simp) ?_
      refine WN.op prg (by simp) (by simp; rfl) (by simp) ?_
      refine WN.op prg (by simp) (by simp; rfl) (by simp) ?_
      refine WN.keep [0, 1, 5, 6, 7, 8, 30] ?_
      refine WP.cond (by first | rfl | (simp; rfl)) (fun hb => ?_) (fun hb => ?_)
      · try simp at hb
        refine WP.skip ?_
        refine WP.seq ?_
        refine WP.block ?_
        refine WP.seq ?_
        refine WP.regN prg (by kernel_rfl) ?_ -- region 11
        refine WN.op prg (by simp) (by simp; rfl) (by simp) ?_
        refine WN.keep [0, 1, 5, 6, 7, 8, 9] ?_
        refine WP.block ?_
        refine WP.loopU (i) (fun j => [(9, .v (.c (.int .i64 (j))))]) (fun j => [(144, .arr 0 true (.ints .i64 ((List.range j).foldl (pair1 ms n k i) ((List.range i).foldl (pairI ms n k) ((List.range k).foldl (pairL ms n) ms)))))]) (fun j => True) (fun k => by simp [putAll]; rfl) (fun k => by simp; rfl) (by simp) (by simp) (by simp) ?_
        intro j hk _
        have hoj : FOk ms.length ((List.range j).foldl (pair1 ms n k i) ((List.range i).foldl (pairI ms n k) ((List.range k).foldl (pairL ms n) ms))) := foldl_ok (P := FOk ms.length) (fun b a hb => pair1_ok a hb) _ _ hoi
        refine WP.seq ?_
        refine WP.seq ?_
        refine WP.regN prg (by kernel_rfl) ?_ -- region 12
        refine WN.op prg (by simp) (by simp; rfl) (by simp) ?_
        refine WN.op prg (by simp) (by simp; rfl) (by simp) ?_
        refine WN.op prg (by simp) (by simp; rfl) (by simp) ?_
        refine WN.keep [0, 1, 5, 6, 7, 8, 9, 35] ?_
        refine WP.cond (by first | rfl | (simp; rfl)) (fun hb => ?_) (fun hb => ?_)
        · try simp at hb
          refine WP.skip ?_
          refine WP.seq ?_
          refine WP.block ?_
          refine WP.seq ?_
          refine WP.regN prg (by kernel_rfl) ?_ -- region 14
          obtain ⟨_, hin, c0, c1, m0, m1, mk, hcc⟩ := mline hm hbk (j := i) (by omega)
          obtain ⟨_, hjn, d0, d1, n0, n1, nk, hdd⟩ := mline hm hbk (j := j) (by omega)
          refine WN.op prg (by simp) (by simp; rfl) (by simp) ?_
          refine WN.op prg (by simp) (by simp; rfl) (by simp) ?_
          refine WN.op prg (by simp) (by simp; rfl) (by simp) ?_
          refine WN.op prg (by simp) (by simp; rfl) (by first | (simp; done) | (simp; omega)) ?_
          refine WN.op prg (by simp) (by simp; rfl) (by first | (simp; done) | (simp; omega)) ?_
          refine WN.op prg (by simp) (by simp; rfl) (by first | (simp; done) | (simp; omega)) ?_
          refine WN.op prg (by simp) (by simp; rfl) (by first | (simp; done) | (simp; omega)) ?_
          refine WN.op prg (by simp) (by simp; rfl) (by simp) ?_
          refine WN.keep [0, 1, 5, 6, 7, 8, 9, 10] ?_
          refine WP.seq ?_
          refine WP.seq ?_
          refine WP.regN prg (by kernel_rfl) ?_ -- region 15
          refine WN.op prg (by simp) (by simp; rfl) (by simp) ?_
          refine WN.op prg (by simp) (by simp; rfl) (by simp) ?_
          refine WN.op prg (by simp) (by simp; rfl) (by simp) ?_
          refine WN.op prg (by simp) (by simp; rfl) (by simp) ?_
          refine WN.op prg (by simp) (by simp; rfl) (by first | (simp; done) | (simp; omega)) ?_
          refine WN.op prg (by simp) (by simp; rfl) (by first | (simp; done) | (simp; omega)) ?_
          refine WN.op prg (by simp) (by simp; rfl) (by first | (simp; done) | (simp; omega)) ?_
          refine WN.op prg (by simp) (by simp; rfl) (by first | (simp; done) | (simp; omega)) ?_
          refine WN.op prg (by simp) (by simp; rfl) (by simp) ?_
          refine WN.op prg (by simp) (by simp; rfl) (by simp) ?_
          apply WN.join (t := 59) 5 54
          · first | rfl | (simp; rfl)
          · intro hg54
            refine WN.skip prg (by simp) ?_
            refine WN.skip prg (by simp) ?_
            refine WN.skip prg (by simp) ?_
            refine WN.skip prg (by simp) ?_
            refine WN.op prg (by simp) (by simp; rfl) (by simp) ?_
            exact WN.keep [59, 0, 1, 5, 6, 7, 8, 9, 10] rfl
          · intro hg54
            refine WN.op prg (by simp) (by simp; rfl) (by simp) ?_
            refine WN.call prg [] [] (by simp) rfl (by simp; rfl) (by simp) (CallsA.at (by simp) (by simp) (c_specMaskValues (ms[((lineCells n k)[i]?.getD 0).toNat]?.getD 0))) ?_
            rintro _ _ ⟨rfl, rfl⟩
            refine ⟨_, by simp; rfl, ?_⟩
            refine WN.op prg (by simp) (by simp; rfl) (by simp) ?_
            refine WN.op prg (by simp) (by simp; rfl) (by simp) ?_
            refine WN.op prg (by simp) (by simp; rfl) (by simp) ?_
            exact WN.keep [59, 0, 1, 5, 6, 7, 8, 9, 10] rfl
          refine WN.keep [0, 1, 5, 6, 7, 8, 9, 10, 59] ?_
          refine WP.cond (by first | rfl | (simp; rfl)) (fun hb => ?_) (fun hb => ?_)
          · try simp at hb
            refine WP.exit ?_
            refine WP.regN prg (by kernel_rfl) ?_ -- region 13
            refine WN.op prg (by simp) (by simp; rfl) (by simp) ?_
            refine WN.op prg (by simp) (by simp; rfl) (by simp) ?_
            refine WN.op prg (by simp) (by simp; rfl) (by simp) ?_
            refine WN.keep [0, 1, 5, 6, 7, 8, 9] ?_
            have hno : pairC ms n k i j = false := by
              unfold pairC
              rcases hb with h | h
              · rw [decide_eq_false (show ¬ getI ms _ = getI ms _ from h), Bool.false_and]
              · rw [decide_eq_false (p := (maskVals _).length = 2) (by unfold getI; omega), Bool.and_false]
            exact ⟨by omega, trivial, by simp [foldl_range, pair1, hno, wrap_id (n := (j : Int) + 1) (by omega) (by omega)]⟩
          · try simp at hb
            refine WP.skip ?_
            refine WP.seq ?_
            refine WP.regN prg (by kernel_rfl) ?_ -- region 16
            refine WN.op prg (by simp) (by simp; rfl) (by simp) ?_
            refine WN.keep [0, 1, 5, 6, 7, 8, 9, 10, 11] ?_
            refine WP.block ?_
            have hyes : pairC ms n k i j = true := by
              exact Bool.and_eq_true_iff.2 ⟨decide_eq_true hb.1, decide_eq_true (by have := hb.2; unfold getI; omega)⟩
            refine WP.loopU (n.toNat) (fun q => [(11, .v (.c (.int .i64 (q))))]) (fun q => [(144, .arr 0 true (.ints .i64 ((List.range q).foldl (pairK ms n k i j) ((List.range j).foldl (pair1 ms n k i) ((List.range i).foldl (pairI ms n k) ((List.range k).foldl (pairL ms n) ms))))))]) (fun q => True) (fun k => by simp [putAll]; rfl) (fun k => by simp; rfl) (by simp) (by simp) (by simp) ?_
            intro q hk _
            have hoq : FOk ms.length ((List.range q).foldl (pairK ms n k i j) ((List.range j).foldl (pair1 ms n k i) ((List.range i).foldl (pairI ms n k) ((List.range k).foldl (pairL ms n) ms)))) := foldl_ok (P := FOk ms.length) (fun b a hb => pairK_ok a hb) _ _ hoj
            have hoq1 := hoq.1
            refine WP.seq ?_
            refine WP.seq ?_
            refine WP.regN prg (by kernel_rfl) ?_ -- region 17
            refine WN.op prg (by simp) (by simp; rfl) (by simp) ?_
            refine WN.op prg (by simp) (by simp; rfl) (by simp) ?_
            refine WN.op prg (by simp) (by simp; rfl) (by simp) ?_
            refine WN.keep [0, 1, 5, 6, 7, 8, 9, 10, 11, 62] ?_
            refine WP.cond (by first | rfl | (simp; rfl)) (fun hb => ?_) (fun hb => ?_)
            · try simp at hb
              refine WP.skip ?_
              refine WP.seq ?_
              refine WP.block ?_
              refine WP.seq ?_
              refine WP.regN prg (by kernel_rfl) ?_ -- region 19
              refine WN.op prg (by simp) (by simp; rfl) (by simp) ?_
              refine WN.op prg (by simp) (by simp; rfl) (by simp) ?_
              refine WN.op prg (by simp) (by simp; rfl) (by simp) ?_
              refine WN.op prg (by simp) (by simp; rfl) (by simp) ?_
              apply WN.join (t := 72) 4 68
              · first | rfl | (simp; rfl)
              · intro hg68
                refine WN.op prg (by simp) (by simp; rfl) (by simp) ?_
                refine WN.op prg (by simp) (by simp; rfl) (by simp) ?_
                refine WN.op prg (by simp) (by simp; rfl) (by simp) ?_
                refine WN.op prg (by simp) (by simp; rfl) (by simp) ?_
                exact WN.keep [72, 0, 1, 5, 6, 7, 8, 9, 10, 11] rfl
              · intro hg68
                refine WN.skip prg (by simp) ?_
                refine WN.skip prg (by simp) ?_
                refine WN.skip prg (by simp) ?_
                refine WN.op prg (by simp) (by simp; rfl) (by simp) ?_
                exact WN.keep [72, 0, 1, 5, 6, 7, 8, 9, 10, 11] rfl
              refine WN.keep [0, 1, 5, 6, 7, 8, 9, 10, 11, 72] ?_
              refine WP.cond (by first | rfl | (simp; rfl)) (fun hb => ?_) (fun hb => ?_)
              · try simp at hb
                refine WP.reg prg (by kernel_rfl) ?_ -- region 20 DRAWS
                obtain ⟨_, hqn, e0, e1, o0, o1, ok, hee⟩ := mline hm hbk (j := q) (by omega)
                refine WS.d (by simp) (by simp; rfl) (by simp) (by kernel_rfl) ?_
                refine WS.d (by simp) (by simp; rfl) (by simp) (by kernel_rfl) ?_
                refine WS.d (by simp) (by simp; rfl) (by simp) (by kernel_rfl) ?_
                refine WS.d (by simp) (by simp; rfl) (by first | (simp; done) | (simp; omega)) (by kernel_rfl) ?_
                refine WS.d (by simp) (by simp; rfl) (by first | (simp; done) | (simp; omega)) (by kernel_rfl) ?_
                refine WS.d (by simp) (by simp; rfl) (by simp) (by kernel_rfl) ?_
                refine WS.d (by simp) (by simp; rfl) (by simp) (by kernel_rfl) ?_
                refine WS.d (by simp) (by simp; rfl) (by simp) (by kernel_rfl) ?_
                refine WS.d (by simp) (by simp; rfl) (by first | (simp; done) | (simp; omega)) (by kernel_rfl) ?_
                refine WS.d (by simp) (by simp; rfl) (by first | (simp; done) | (simp; omega)) (by kernel_rfl) ?_
                refine WS.d (by simp) (by simp; rfl) (by first | (simp; done) | (simp; omega)) (by kernel_rfl) ?_
                refine WS.d (by simp) (by simp; rfl) (by first | (simp; done) | (simp; omega)) (by kernel_rfl) ?_
                refine WS.d (by simp) (by simp; rfl) (by simp) (by kernel_rfl) ?_
                refine WS.d (by simp) (by simp; rfl) (by simp) (by kernel_rfl) ?_
                refine WS.d (by simp) (by simp; rfl) (by first | (simp; done) | (simp; omega)) (by kernel_rfl) ?_
                refine WS.d (by simp) (by simp; rfl) (by first | (simp; done) | (simp; omega)) (by kernel_rfl) ?_
                refine WS.keep [0, 1, 5, 6, 7, 8, 9, 10, 11] ?_
                refine WP.regN prg (by kernel_rfl) ?_ -- region 18
                refine WN.op prg (by simp) (by simp; rfl) (by simp) ?_
                refine WN.op prg (by simp) (by simp; rfl) (by simp) ?_
                refine WN.op prg (by simp) (by simp; rfl) (by simp) ?_
                refine WN.keep [0, 1, 5, 6, 7, 8, 9, 10, 11] ?_
                obtain ⟨_, hqn, e0, e1, o0, o1, ok, hee⟩ := mline hm hbk (j := q) (by omega)
                have hc : q ≠ i ∧ q ≠ j := by omega
                have g1 := hoq.get ((lineCells n k)[q]?.getD 0).toNat
                exact ⟨by omega, trivial, by simp [foldl_range, pairK, hc, getI, bits_andNot g1.1 g1.2 m0 m1, wrap_id (n := (q : Int) + 1) (by omega) (by omega)]⟩
              · try simp at hb
                refine WP.skip ?_
                refine WP.regN prg (by kernel_rfl) ?_ -- region 18
                refine WN.op prg (by simp) (by simp; rfl) (by simp) ?_
                refine WN.op prg (by simp) (by simp; rfl) (by simp) ?_
                refine WN.op prg (by simp) (by simp; rfl) (by simp) ?_
                refine WN.keep [0, 1, 5, 6, 7, 8, 9, 10, 11] ?_
                have hc : ¬ (q ≠ i ∧ q ≠ j) := by omega
                exact ⟨by omega, trivial, by simp [foldl_range, pairK, if_neg hc, wrap_id (n := (q : Int) + 1) (by omega) (by omega)]⟩
            · try simp at hb
              refine WP.exit ?_
              refine WP.regN prg (by kernel_rfl) ?_ -- region 13
              refine WN.op prg (by simp) (by simp; rfl) (by simp) ?_
              refine WN.op prg (by simp) (by simp; rfl) (by simp) ?_
              refine WN.op prg (by simp) (by simp; rfl) (by simp) ?_
              refine WN.keep [0, 1, 5, 6, 7, 8, 9] ?_
              have hqn : q = n.toNat := by omega
              exact ⟨by omega, trivial, by simp [foldl_range, pair1, hyes, hqn, wrap_id (n := (j : Int) + 1) (by omega) (by omega)]⟩
        · try simp at hb
          refine WP.exit ?_
          refine WP.regN prg (by kernel_rfl) ?_ -- region 10
          refine WN.op prg (by simp) (by simp; rfl) (by simp) ?_
          refine WN.op prg (by simp) (by simp; rfl) (by simp) ?_
          refine WN.op prg (by simp) (by simp; rfl) (by simp) ?_
          refine WN.keep [0, 1, 5, 6, 7, 8] ?_
          have hjn : j = i := by omega
          exact ⟨by omega, trivial, by simp [foldl_range, pairI, hjn, wrap_id (n := (i : Int) + 1) (by omega) (by omega)]⟩
      · try simp at hb
        refine WP.exit ?_
        refine WP.regN prg (by kernel_rfl) ?_ -- region 6
        refine WN.op prg (by simp) (by simp; rfl) (by simp) ?_
        refine WN.op prg (by simp) (by simp; rfl) (by simp) ?_
        refine WN.op prg (by simp) (by simp; rfl) (by simp) ?_
        refine WN.keep [0, 1, 5, 6] ?_
        have hqn : i = n.toNat := by omega
        exact ⟨by omega, trivial, by simp [foldl_range, pairL, hqn, wrap_id (n := (k : Int) + 1) (by omega) (by omega)]⟩
    · try simp at hb
      refine WP.exit ?_
      refine WP.seq ?_
      refine WP.regN prg (by kernel_rfl) ?_ -- region 21
      refine WN.op prg (by simp) (by simp; rfl) (by simp) ?_
      refine WN.op prg (by simp) (by simp; rfl) (by simp) ?_
      refine WN.keep [4] ?_
      refine WP.ret (DoneQ.ret [] (by simp; rfl) (by simp; rfl) ?_)
      have hkk : k = (2 * n).toNat := by omega
      have hl := hok.1
      rw [hkk] at hl
      exact ⟨rfl, by simp [narrow3, hm, hkk, List.take_of_length_le, hl]⟩
end Go.Proofs.Ytaicenafkjbnoaa

