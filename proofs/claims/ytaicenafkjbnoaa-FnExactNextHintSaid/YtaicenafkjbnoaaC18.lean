/- Contracts: hidden values, pairs (program). -/
import Derived.Test.YtaicenafkjbnoaaC17
import Derived.Test.YtaicenafkjbnoaaPlE
set_option linter.unusedVariables false
set_option linter.unusedSimpArgs false
namespace Go.Proofs.Ytaicenafkjbnoaa
open Go Go.AM
set_option maxRecDepth 100000

theorem c_implNarrow2 (ms : List Int) (n : Int) (hm : masksOk ms n = true) : CallsA Try.prog 166 [.c (.dsl false (.ints .i64 (ms))), .c (.int .i64 (n))] [] fun r ho => ho = [] ∧ r = .v (.c (.dsl true (.ints .i64 (narrow2 ms n)))) := by
  have hml := masks_len hm
  obtain ⟨h2, h4, hll, hall⟩ := masksOk_iff.1 hm
  have hw2 := wrap2 h2 h4
  refine CallsA.of (tv := tyOf Try.prog) (fn := Try.f166) prg.tv Try.func166 rfl rfl (by simp) ?_
  refine WP.seq ?_
  refine WP.regN prg (by kernel_rfl) ?_ -- region 0
  refine WN.op prg (by simp) (by simp; rfl) (by simp) ?_
  refine WN.keep [0, 1] ?_
  refine WP.seq ?_
  refine WP.seq ?_
  refine WP.regN prg (by kernel_rfl) ?_ -- region 1
  refine WN.op prg (by simp) (by simp; rfl) (by simp) ?_
  refine WN.op prg (by simp) (by simp; rfl) (by simp) ?_
  refine WN.call prg [] [] (by simp) rfl (by simp; rfl) (by simp) (CallsA.at (by simp) (by simp) (c_implMasksValid ms n hm)) ?_
  rintro _ _ ⟨rfl, rfl⟩
  refine ⟨_, by simp; rfl, ?_⟩
  refine WN.op prg (by simp) (by simp; rfl) (by simp) ?_
  refine WN.keep [0, 1, 15] ?_
  refine WP.cond (by first | rfl | (simp; rfl)) (fun hb => ?_) (fun hb => ?_)
  · exact absurd hb (by simp)
  · try simp at hb
    refine WP.skip ?_
    refine WP.seq ?_
    refine WP.regN prg (by kernel_rfl) ?_ -- region 3
    refine WN.op prg (by simp) (by simp; rfl) (by simp) ?_
    refine WN.call prg [] [] (by simp) rfl (by simp; rfl) (by simp) (CallsA.at (by simp) (by simp) (c_clone ms (by omega))) ?_
    rintro _ _ ⟨rfl, rfl⟩
    refine ⟨_, by simp; rfl, ?_⟩
    refine WN.op prg (by simp) (by simp; rfl) (by simp) ?_
    refine WN.keep [0, 1, 5] ?_
    refine WP.seq ?_
    refine WP.seq ?_
    refine WP.regN prg (by kernel_rfl) ?_ -- region 4
    refine WN.op prg (by simp) (by simp; rfl) (by simp) ?_
    refine WN.op prg (by simp) (by simp; rfl) (by simp) ?_
    refine WN.op prg (by simp) (by simp; rfl) (by simp) ?_
    refine WN.keep [0, 1, 5, 19, 20] ?_
    refine WP.block ?_
    refine WP.loopU ((2 * n).toNat) (fun k => [(20, .v (.c (.int .i64 (k))))]) (fun k => [(136, .arr 0 true (.ints .i64 ((List.range k).foldl (hidL ms n) ms)))]) (fun k => True) (fun k => by simp [putAll]; rfl) (fun k => by simp; rfl) (by simp) (by simp) (by simp) ?_
    intro k hk _
    have hok : FOk ms.length ((List.range k).foldl (hidL ms n) ms) := foldl_ok (P := FOk ms.length) (fun b a hb => hidL_ok a hb) _ _ (fok_masks hm)
    refine WP.seq ?_
    refine WP.regN prg (by kernel_rfl) ?_ -- region 5
    refine WN.op prg (by simp) (by simp; rfl) (by simp) ?_
    refine WN.keep [0, 1, 5, 19, 20, 21] ?_
    refine WP.seq ?_
    refine WP.cond (by first | rfl | (simp; rfl)) (fun hb => ?_) (fun hb => ?_)
    · try simp at hb
      refine WP.skip ?_
      refine WP.seq ?_
      refine WP.block ?_
      refine WP.seq ?_
      refine WP.regN prg (by kernel_rfl) ?_ -- region 6
      refine WN.op prg (by simp) (by simp; rfl) (by simp) ?_
      refine WN.op prg (by simp) (by simp; rfl) (by simp) ?_
      refine WN.keep [0, 1, 5, 6, 19, 20] ?_
      refine WP.seq ?_
      refine WP.regN prg (by kernel_rfl) ?_ -- region 7
      refine WN.op prg (by simp) (by simp; rfl) (by simp) ?_
      refine WN.keep [0, 1, 5, 6, 7, 19, 20] ?_
      refine WP.block ?_
      have hbk := hb
      have hL : lineOk n k = true := lineOk_iff.2 ⟨h2, h4, by omega, by rw [hw2] at hbk; exact hbk⟩
      have hcl := lineCells_len hL
      refine WP.loopU (n.toNat) (fun q => [(7, .v (.c (.int .i64 ((q : Int) + 1))))]) (fun q => [(136, .arr 0 true (.ints .i64 ((List.range q).foldl (hidV ms n k) ((List.range k).foldl (hidL ms n) ms))))]) (fun q => True) (fun k => by simp [putAll]; rfl) (fun k => by simp; rfl) (by simp) (by simp) (by simp) ?_
      intro q hk _
      have hoq : FOk ms.length ((List.range q).foldl (hidV ms n k) ((List.range k).foldl (hidL ms n) ms)) := foldl_ok (P := FOk ms.length) (fun b a hb => hid1_ok hb) _ _ hok
      refine WP.seq ?_
      refine WP.seq ?_
      refine WP.regN prg (by kernel_rfl) ?_ -- region 8
      refine WN.op prg (by simp) (by simp; rfl) (by simp) ?_
      refine WN.op prg (by simp) (by simp; rfl) (by simp) ?_
      refine WN.op prg (by simp) (by simp; rfl) (by simp) ?_
      refine WN.keep [0, 1, 5, 6, 7, 19, 20, 25] ?_
      refine WP.cond (by first | rfl | (simp; rfl)) (fun hb => ?_) (fun hb => ?_)
      · try simp at hb
        refine WP.skip ?_
        refine WP.seq ?_
        refine WP.block ?_
        refine WP.seq ?_
        refine WP.regN prg (by kernel_rfl) ?_ -- region 10
        refine WN.op prg (by simp) (by simp; rfl) (by simp) ?_
        refine WN.op prg (by simp) (by simp; rfl) (by simp) ?_
        refine WN.keep [0, 1, 5, 6, 7, 8, 9, 19, 20] ?_
        refine WP.seq ?_
        refine WP.seq ?_
        refine WP.regN prg (by kernel_rfl) ?_ -- region 11
        refine WN.op prg (by simp) (by simp; rfl) (by simp) ?_
        refine WN.op prg (by simp) (by simp; rfl) (by simp) ?_
        refine WN.call prg [] [] (by simp) rfl (by simp; rfl) (by simp) (CallsA.at (by simp) (by simp) (c_implLineCells n k)) ?_
        rintro _ _ ⟨rfl, rfl⟩
        refine ⟨_, by simp; rfl, ?_⟩
        refine WN.op prg (by simp) (by simp; rfl) (by simp) ?_
        refine WN.op prg (by simp) (by simp; rfl) (by simp) ?_
        refine WN.keep [0, 1, 5, 6, 7, 8, 9, 19, 20, 30, 31, 32] ?_
        refine WP.block ?_
        refine WP.loopU (n.toNat) (fun j => [(9, .v (.c (.int .i64 ((cellsV ms n k ((q : Int) + 1) j).length)))), (8, .v (.c (.int .i64 (lastI (cellsV ms n k ((q : Int) + 1) j))))), (32, .v (.c (.int .i64 (j))))]) (fun j => []) (fun j => True) (fun k => by simp [putAll]; rfl) (fun k => by simp; rfl) (by simp) (by simp) (by simp) ?_
        intro j hk _
        have hm1 := fun h : j < (lineCells n k).length => mline hm hbk h
        have hcv := cellsV_le ms n k ((q : Int) + 1) j
        refine WP.seq ?_
        refine WP.regN prg (by kernel_rfl) ?_ -- region 12
        refine WN.op prg (by simp) (by simp; rfl) (by simp) ?_
        refine WN.keep [0, 1, 5, 6, 7, 8, 9, 19, 20, 30, 31, 32, 33] ?_
        refine WP.seq ?_
        refine WP.cond (by first | rfl | (simp; rfl)) (fun hb => ?_) (fun hb => ?_)
        · try simp at hb
          refine WP.skip ?_
          refine WP.seq ?_
          refine WP.block ?_
          refine WP.seq ?_
          refine WP.regN prg (by kernel_rfl) ?_ -- region 13
          refine WN.op prg (by simp) (by simp; rfl) (by first | (simp; done) | (simp; omega)) ?_
          refine WN.op prg (by simp) (by simp; rfl) (by first | (simp; done) | (simp; omega)) ?_
          refine WN.op prg (by simp) (by simp; rfl) (by simp) ?_
          refine WN.keep [0, 1, 5, 6, 7, 8, 9, 11, 19, 20, 30, 31, 32] ?_
          refine WP.seq ?_
          refine WP.regN prg (by kernel_rfl) ?_ -- region 14
          refine WN.op prg (by simp) (by simp; rfl) (by simp) ?_
          refine WN.op prg (by simp) (by simp; rfl) (by simp) ?_
          refine WN.op prg (by simp) (by simp; rfl) (by first | (simp; done) | (simp; omega)) ?_
          refine WN.op prg (by simp) (by simp; rfl) (by first | (simp; done) | (simp; omega)) ?_
          refine WN.op prg (by simp) (by simp; rfl) (by simp) ?_
          refine WN.op prg (by simp) (by simp; rfl) (by first | (simp; done) | (simp; omega)) ?_
          refine WN.op prg (by simp) (by simp; rfl) (by simp) ?_
          refine WN.op prg (by simp) (by simp; rfl) (by simp) ?_
          refine WN.keep [0, 1, 5, 6, 7, 8, 9, 11, 19, 20, 30, 31, 32, 43] ?_
          refine WP.cond (by first | rfl | (simp; rfl)) (fun hb => ?_) (fun hb => ?_)
          · try simp at hb
            refine WP.seq ?_
            refine WP.regN prg (by kernel_rfl) ?_ -- region 15
            refine WN.op prg (by simp) (by simp; rfl) (by simp) ?_
            refine WN.op prg (by simp) (by simp; rfl) (by simp) ?_
            refine WN.keep [0, 1, 5, 6, 7, 8, 9, 19, 20, 30, 31, 32] ?_
            refine WP.regN prg (by kernel_rfl) ?_ -- region 16
            refine WN.op prg (by simp) (by simp; rfl) (by simp) ?_
            refine WN.op prg (by simp) (by simp; rfl) (by simp) ?_
            refine WN.op prg (by simp) (by simp; rfl) (by simp) ?_
            refine WN.keep [0, 1, 5, 6, 7, 8, 9, 19, 20, 30, 31, 32] ?_
            refine WP.regN prg (by kernel_rfl) ?_ -- region 17
            refine WN.op prg (by simp) (by simp; rfl) (by simp) ?_
            refine WN.op prg (by simp) (by simp; rfl) (by simp) ?_
            refine WN.keep [0, 1, 5, 6, 7, 8, 9, 19, 20, 30, 31, 32] ?_
            obtain ⟨_, hjn, c0, c1, m0, m1, mk, hcc⟩ := hm1 (by omega)
            have hbt := bit_and1_k m0 m1 (k := q) (by omega)
            rw [decide_eq_true hb] at hbt
            exact ⟨by omega, trivial, by simp [cellsV_yes hcc (show bit (getI ms _) _ = true from hbt.symm), wrap_id (n := (j : Int) + 1) (by omega) (by omega), wrap_id (n := ((cellsV ms n k ((q : Int) + 1) j).length : Int) + 1) (by omega) (by omega)]⟩
          · try simp at hb
            refine WP.skip ?_
            refine WP.regN prg (by kernel_rfl) ?_ -- region 17
            refine WN.op prg (by simp) (by simp; rfl) (by simp) ?_
            refine WN.op prg (by simp) (by simp; rfl) (by simp) ?_
            refine WN.keep [0, 1, 5, 6, 7, 8, 9, 19, 20, 30, 31, 32] ?_
            obtain ⟨_, hjn, c0, c1, m0, m1, mk, hcc⟩ := hm1 (by omega)
            have hbt := bit_and1_k m0 m1 (k := q) (by omega)
            rw [decide_eq_false hb] at hbt
            exact ⟨by omega, trivial, by simp [cellsV_no hcc (show bit (getI ms _) _ = false from hbt.symm), wrap_id (n := (j : Int) + 1) (by omega) (by omega)]⟩
        · try simp at hb
          refine WP.exit ?_
          refine WP.seq ?_
          refine WP.regN prg (by kernel_rfl) ?_ -- region 18
          refine WN.op prg (by simp) (by simp; rfl) (by simp) ?_
          refine WN.op prg (by simp) (by simp; rfl) (by simp) ?_
          refine WN.keep [0, 1, 5, 6, 7, 8, 19, 20, 49] ?_
          refine WP.cond (by first | rfl | (simp; rfl)) (fun hb => ?_) (fun hb => ?_)
          · try simp at hb
            refine WP.reg prg (by kernel_rfl) ?_ -- region 19 DRAWS
            obtain ⟨l0, l1⟩ := lastI_in (ms := ms) (v := (q : Int) + 1) (j := j) hL (by omega)
            have hoq1 := hoq.1
            refine WS.d (by simp) (by simp; rfl) (by simp) (by kernel_rfl) ?_
            refine WS.d (by simp) (by simp; rfl) (by simp) (by kernel_rfl) ?_
            refine WS.d (by simp) (by simp; rfl) (by first | (simp; done) | (simp; omega)) (by kernel_rfl) ?_
            refine WS.d (by simp) (by simp; rfl) (by first | (simp; done) | (simp; omega)) (by kernel_rfl) ?_
            refine WS.d (by simp) (by simp; rfl) (by simp) (by kernel_rfl) ?_
            refine WS.d (by simp) (by simp; rfl) (by first | (simp; done) | (simp; omega)) (by kernel_rfl) ?_
            refine WS.d (by simp) (by simp; rfl) (by simp) (by kernel_rfl) ?_
            refine WS.d (by simp) (by simp; rfl) (by first | (simp; done) | (simp; omega)) (by kernel_rfl) ?_
            refine WS.d (by simp) (by simp; rfl) (by first | (simp; done) | (simp; omega)) (by kernel_rfl) ?_
            refine WS.keep [0, 1, 5, 6, 7, 19, 20] ?_
            refine WP.regN prg (by kernel_rfl) ?_ -- region 9
            refine WN.op prg (by simp) (by simp; rfl) (by simp) ?_
            refine WN.op prg (by simp) (by simp; rfl) (by simp) ?_
            refine WN.op prg (by simp) (by simp; rfl) (by simp) ?_
            refine WN.keep [0, 1, 5, 6, 7, 19, 20] ?_
            have hjl : j = (lineCells n k).length := by omega
            have hone : (cellsV ms n k ((q : Int) + 1) (lineCells n k).length).length = 1 := by rw [← hjl]; omega
            have e1 := shl_k (k := q) (by omega)
            have e2 := one_le (v := (q : Int) + 1) (by omega) (by omega)
            have g1 := hoq.get (lastI (cellsV ms n k ((q : Int) + 1) j)).toNat
            have e3 := bits_and g1.1 (by omega) (show 0 ≤ one ((q : Int) + 1) by omega) (by omega)
            refine ⟨by omega, trivial, ?_⟩
            rw [foldl_range]
            simp only [hidV]
            rw [hid1_one hone, ← hjl]
            simp [e1, e3, getI, wrap_id (n := (q : Int) + 1 + 1) (by omega) (by omega)]
          · try simp at hb
            refine WP.skip ?_
            refine WP.regN prg (by kernel_rfl) ?_ -- region 9
            refine WN.op prg (by simp) (by simp; rfl) (by simp) ?_
            refine WN.op prg (by simp) (by simp; rfl) (by simp) ?_
            refine WN.op prg (by simp) (by simp; rfl) (by simp) ?_
            refine WN.keep [0, 1, 5, 6, 7, 19, 20] ?_
            have hjl : j = (lineCells n k).length := by omega
            have hone : (cellsV ms n k ((q : Int) + 1) (lineCells n k).length).length ≠ 1 := by rw [← hjl]; omega
            refine ⟨by omega, trivial, ?_⟩
            rw [foldl_range]
            simp only [hidV]
            rw [hid1_no hone]
            simp [wrap_id (n := (q : Int) + 1 + 1) (by omega) (by omega)]
      · try simp at hb
        refine WP.exit ?_
        refine WP.regN prg (by kernel_rfl) ?_ -- region 20
        refine WN.op prg (by simp) (by simp; rfl) (by simp) ?_
        refine WN.op prg (by simp) (by simp; rfl) (by simp) ?_
        refine WN.keep [0, 1, 5, 19, 20] ?_
        have hqn : q = n.toNat := by omega
        exact ⟨by omega, trivial, by simp [foldl_range, hidL, hqn, wrap_id (n := (k : Int) + 1) (by omega) (by omega)]⟩
    · try simp at hb
      refine WP.exit ?_
      refine WP.seq ?_
      refine WP.regN prg (by kernel_rfl) ?_ -- region 21
      refine WN.op prg (by simp) (by simp; rfl) (by simp) ?_
      refine WN.op prg (by simp) (by simp; rfl) (by simp) ?_
      refine WN.keep [4] ?_
      refine WP.ret (DoneQ.ret [] (by simp; rfl) (by simp; rfl) ?_)
      have hkk : k = (2 * n).toNat := by omega
      have hl := hok.1
      rw [hkk] at hl
      exact ⟨rfl, by simp [narrow2, hm, hkk, List.take_of_length_le, hl]⟩
theorem pairX_ok {ms out : List Int} {n line : Int} {i N : Nat} (j : Nat) (h : FOk N out) : FOk N (pairX ms n line i out j) := pair1_ok _ h
theorem pairXI_ok {ms out : List Int} {n line : Int} {N : Nat} (i : Nat) (h : FOk N out) : FOk N (pairXI ms n line out i) := foldl_ok (P := FOk N) (fun b a hb => pairX_ok a hb) _ _ h
theorem pairXL_ok {ms out : List Int} {n : Int} {N : Nat} (l : Nat) (h : FOk N out) : FOk N (pairXL ms n out l) := foldl_ok (P := FOk N) (fun b a hb => pairXI_ok a hb) _ _ h
theorem c_implNarrow3 (ms : List Int) (n : Int) (hm : masksOk ms n = true) : CallsA Try.prog 167 [.c (.dsl false (.ints .i64 (ms))), .c (.int .i64 (n))] [] fun r ho => ho = [] ∧ r = .v (.c (.dsl true (.ints .i64 (narrow3 ms n)))) := by
  have hml := masks_len hm
  obtain ⟨h2, h4, hll, hall⟩ := masksOk_iff.1 hm
  have hw2 := wrap2 h2 h4
  refine CallsA.of (tv := tyOf Try.prog) (fn := Try.f167) prg.tv Try.func167 rfl rfl (by simp) ?_
  refine WP.seq ?_
  refine WP.regN prg (by kernel_rfl) ?_ -- region 0
  refine WN.op prg (by simp) (by simp; rfl) (by simp) ?_
  refine WN.keep [0, 1] ?_
  refine WP.seq ?_
  refine WP.seq ?_
  refine WP.regN prg (by kernel_rfl) ?_ -- region 1
  refine WN.op prg (by simp) (by simp; rfl) (by simp) ?_
  refine WN.op prg (by simp) (by simp; rfl) (by simp) ?_
  refine WN.call prg [] [] (by simp) rfl (by simp; rfl) (by simp) (CallsA.at (by simp) (by simp) (c_implMasksValid ms n hm)) ?_
  rintro _ _ ⟨rfl, rfl⟩
  refine ⟨_, by simp; rfl, ?_⟩
  refine WN.op prg (by simp) (by simp; rfl) (by simp) ?_
  refine WN.keep [0, 1, 17] ?_
  refine WP.cond (by first | rfl | (simp; rfl)) (fun hb => ?_) (fun hb => ?_)
  · exact absurd hb (by simp)
  · try simp at hb
    refine WP.skip ?_
    refine WP.seq ?_
    refine WP.regN prg (by kernel_rfl) ?_ -- region 3
    refine WN.op prg (by simp) (by simp; rfl) (by simp) ?_
    refine WN.call prg [] [] (by simp) rfl (by simp; rfl) (by simp) (CallsA.at (by simp) (by simp) (c_clone ms (by omega))) ?_
    rintro _ _ ⟨rfl, rfl⟩
    refine ⟨_, by simp; rfl, ?_⟩
    refine WN.op prg (by simp) (by simp; rfl) (by simp) ?_
    refine WN.keep [0, 1, 5] ?_
    refine WP.seq ?_
    refine WP.seq ?_
    refine WP.regN prg (by kernel_rfl) ?_ -- region 4
    refine WN.op prg (by simp) (by simp; rfl) (by simp) ?_
    refine WN.op prg (by simp) (by simp; rfl) (by simp) ?_
    refine WN.op prg (by simp) (by simp; rfl) (by simp) ?_
    refine WN.keep [0, 1, 5, 21, 22] ?_
    refine WP.block ?_
    refine WP.loopU ((2 * n).toNat) (fun k => [(22, .v (.c (.int .i64 (k))))]) (fun k => [(152, .arr 0 true (.ints .i64 ((List.range k).foldl (pairXL ms n) ms)))]) (fun k => True) (fun k => by simp [putAll]; rfl) (fun k => by simp; rfl) (by simp) (by simp) (by simp) ?_
    intro k hk _
    have hok : FOk ms.length ((List.range k).foldl (pairXL ms n) ms) := foldl_ok (P := FOk ms.length) (fun b a hb => pairXL_ok a hb) _ _ (fok_masks hm)
    refine WP.seq ?_
    refine WP.regN prg (by kernel_rfl) ?_ -- region 5
    refine WN.op prg (by simp) (by simp; rfl) (by simp) ?_
    refine WN.keep [0, 1, 5, 21, 22, 23] ?_
    refine WP.seq ?_
    refine WP.cond (by first | rfl | (simp; rfl)) (fun hb => ?_) (fun hb => ?_)
    · try simp at hb
      refine WP.skip ?_
      refine WP.seq ?_
      refine WP.block ?_
      refine WP.seq ?_
      refine WP.regN prg (by kernel_rfl) ?_ -- region 6
      refine WN.op prg (by simp) (by simp; rfl) (by simp) ?_
      refine WN.op prg (by simp) (by simp; rfl) (by simp) ?_
      refine WN.keep [0, 1, 5, 6, 21, 22] ?_
      refine WP.seq ?_
      refine WP.regN prg (by kernel_rfl) ?_ -- region 7
      refine WN.op prg (by simp) (by simp; rfl) (by simp) ?_
      refine WN.op prg (by simp) (by simp; rfl) (by simp) ?_
      have hbk := hb
      refine WN.call prg [] [] (by simp) rfl (by simp; rfl) (by simp) (CallsA.at (by simp) (by simp) (c_implLineCells n k)) ?_
      rintro _ _ ⟨rfl, rfl⟩
      refine ⟨_, by simp; rfl, ?_⟩
      refine WN.op prg (by simp) (by simp; rfl) (by simp) ?_
      refine WN.keep [0, 1, 5, 7, 21, 22] ?_
      refine WP.seq ?_
      refine WP.regN prg (by kernel_rfl) ?_ -- region 8
      refine WN.op prg (by simp) (by simp; rfl) (by simp) ?_
      refine WN.op prg (by simp) (by simp; rfl) (by simp) ?_
      refine WN.op prg (by simp) (by simp; rfl) (by simp) ?_
      refine WN.keep [0, 1, 5, 7, 21, 22, 28, 29, 30] ?_
      refine WP.block ?_
      have hL : lineOk n k = true := lineOk_iff.2 ⟨h2, h4, by omega, by rw [hw2] at hbk; exact hbk⟩
      have hcl := lineCells_len hL
      refine WP.loopU (n.toNat) (fun i => [(30, .v (.c (.int .i64 (i))))]) (fun i => [(152, .arr 0 true (.ints .i64 ((List.range i).foldl (pairXI ms n k) ((List.range k).foldl (pairXL ms n) ms))))]) (fun i => True) (fun k => by simp [putAll]; rfl) (fun k => by simp; rfl) (by simp) (by simp) (by simp) ?_
      intro i hk _
      have hoi : FOk ms.length ((List.range i).foldl (pairXI ms n k) ((List.range k).foldl (pairXL ms n) ms)) := foldl_ok (P := FOk ms.length) (fun b a hb => pairXI_ok a hb) _ _ hok
      refine WP.seq ?_
      refine WP.regN prg (by kernel_rfl) ?_ -- region 9
      refine WN.op prg (by simp) (by simp; rfl) (by simp) ?_
      refine WN.keep [0, 1, 5, 7, 21, 22, 28, 29, 30, 31] ?_
      refine WP.seq ?_
      refine WP.cond (by first | rfl | (simp; rfl)) (fun hb => ?_) (fun hb => ?_)
      · try simp at hb
        refine WP.skip ?_
        refine WP.seq ?_
        refine WP.block ?_
        refine WP.seq ?_
        refine WP.regN prg (by kernel_rfl) ?_ -- region 10
        refine WN.op prg (by simp) (by simp; rfl) (by simp) ?_
        refine WN.op prg (by simp) (by simp; rfl) (by first | (simp; done) | (simp; omega)) ?_
        refine WN.op prg (by simp) (by simp; rfl) (by first | (simp; done) | (simp; omega)) ?_
        refine WN.op prg (by simp) (by simp; rfl) (by simp) ?_
        refine WN.op prg (by simp) (by simp; rfl) (by simp) ?_
        refine WN.keep [0, 1, 5, 7, 8, 9, 21, 22, 28, 29, 30] ?_
        refine WP.seq ?_
        refine WP.regN prg (by kernel_rfl) ?_ -- region 11
        have hwi : IntKind.i64.wrap ((i : Int) + 1) = (i : Int) + 1 := wrap_id (by omega) (by omega)
        refine WN.op prg (by simp) (by simp; rfl) (by simp) ?_
        refine WN.op prg (by simp) (by simp; rfl) (by simp) ?_
        refine WN.op prg (by simp) (by simp; rfl) (by simp) ?_
        refine WN.op prg (by simp) (by simp [hwi]; rfl) (by simp [hwi]; omega) ?_
        refine WN.op prg (by simp) (by simp; rfl) (by simp) ?_
        refine WN.op prg (by simp) (by simp; rfl) (by simp) ?_
        refine WN.keep [0, 1, 5, 7, 9, 21, 22, 28, 29, 30, 38, 39, 40] ?_
        refine WP.block ?_
        obtain ⟨_, hin, c0, c1, m0, m1, mk, hcc⟩ := mline hm hbk (j := i) (by omega)
        refine WP.loopU ((n.toNat - (i + 1))) (fun j => [(40, .v (.c (.int .i64 (j))))]) (fun j => [(152, .arr 0 true (.ints .i64 ((List.range j).foldl (pairX ms n k i) ((List.range i).foldl (pairXI ms n k) ((List.range k).foldl (pairXL ms n) ms)))))]) (fun j => True) (fun k => by simp [putAll]; rfl) (fun k => by simp; rfl) (by simp) (by simp) (by simp) ?_
        intro j hk _
        have hoj : FOk ms.length ((List.range j).foldl (pairX ms n k i) ((List.range i).foldl (pairXI ms n k) ((List.range k).foldl (pairXL ms n) ms))) := foldl_ok (P := FOk ms.length) (fun b a hb => pairX_ok a hb) _ _ hoi
        refine WP.seq ?_
        refine WP.regN prg (by kernel_rfl) ?_ -- region 12
        refine WN.op prg (by simp) (by simp; rfl) (by simp) ?_
        refine WN.keep [0, 1, 5, 7, 9, 21, 22, 28, 29, 30, 38, 39, 40, 41] ?_
        refine WP.seq ?_
        refine WP.cond (by first | rfl | (simp; rfl)) (fun hb => ?_) (fun hb => ?_)
        · try simp at hb
          refine WP.skip ?_
          refine WP.seq ?_
          refine WP.block ?_
          refine WP.seq ?_
          refine WP.regN prg (by kernel_rfl) ?_ -- region 13
          have hsl : ((List.drop (i + 1) (lineCells n k)).take ((lineCells n k).length - (i + 1)))[j]?.getD 0 = (lineCells n k)[i + 1 + j]?.getD 0 := by rw [List.getElem?_take, if_pos (by omega), List.getElem?_drop]
          obtain ⟨_, hjn, d0, d1, n0, n1, nk, hdd⟩ := mline hm hbk (j := i + 1 + j) (by omega)
          refine WN.op prg (by simp) (by simp [hsl]; rfl) (by first | (simp; done) | (simp; omega)) ?_
          refine WN.op prg (by simp) (by simp; rfl) (by first | (simp; done) | (simp; omega)) ?_
          refine WN.op prg (by simp) (by simp; rfl) (by simp) ?_
          refine WN.keep [0, 1, 5, 7, 9, 11, 21, 22, 28, 29, 30, 38, 39, 40] ?_
          refine WP.seq ?_
          refine WP.seq ?_
          refine WP.reg prg (by kernel_rfl) ?_ -- region 14 DRAWS
          refine WS.d (by simp) (by simp; rfl) (by simp) (by kernel_rfl) ?_
          refine WS.d (by simp) (by simp; rfl) (by simp) (by kernel_rfl) ?_
          refine WS.d (by simp) (by simp; rfl) (by first | (simp; done) | (simp; omega)) (by kernel_rfl) ?_
          refine WS.d (by simp) (by simp; rfl) (by first | (simp; done) | (simp; omega)) (by kernel_rfl) ?_
          refine WS.d (by simp) (by simp; rfl) (by simp) (by kernel_rfl) ?_
          refine WS.d (by simp) (by simp; rfl) (by simp) (by kernel_rfl) ?_
          refine WS.d (by simp) (by simp; rfl) (by first | (simp; done) | (simp; omega)) (by kernel_rfl) ?_
          refine WS.d (by simp) (by simp; rfl) (by first | (simp; done) | (simp; omega)) (by kernel_rfl) ?_
          refine WS.d (by simp) (by simp; rfl) (by simp) (by kernel_rfl) ?_
          refine WS.d (by simp) (by simp; rfl) (by simp) (by kernel_rfl) ?_
          refine WS.cases 53 (by simp; rfl) (fun hg53 => ?_) (fun hg53 => ?_)
          · refine WS.skipD (by simp) (by kernel_rfl) ?_
            refine WS.skipD (by simp) (by kernel_rfl) ?_
            refine WS.skipD (by simp) (by kernel_rfl) ?_
            refine WS.skipD (by simp) (by kernel_rfl) ?_
            refine WS.skipD (by simp) (by kernel_rfl) ?_
            refine WS.skipD (by simp) (by kernel_rfl) ?_
            refine WS.skipD (by simp) (by kernel_rfl) ?_
            refine WS.d (by simp) (by simp; rfl) (by simp) (by kernel_rfl) ?_
            refine WS.keep [0, 1, 5, 7, 9, 11, 21, 22, 28, 29, 30, 38, 39, 40, 61] ?_
            refine WP.cond (by first | rfl | (simp; rfl)) (fun hb => ?_) (fun hb => absurd hb (by simp))
            refine WP.exit ?_
            refine WP.regN prg (by kernel_rfl) ?_ -- region 21
            refine WN.op prg (by simp) (by simp; rfl) (by simp) ?_
            refine WN.op prg (by simp) (by simp; rfl) (by simp) ?_
            refine WN.keep [0, 1, 5, 7, 9, 21, 22, 28, 29, 30, 38, 39, 40] ?_
            have hno : pairC ms n k i (i + 1 + j) = false := by
              unfold pairC
              rw [decide_eq_false (show ¬ getI ms _ = getI ms _ by simpa [getI] using hg53), Bool.false_and]
            exact ⟨by omega, trivial, by simp [foldl_range, pairX, pair1, hno, wrap_id (n := (j : Int) + 1) (by omega) (by omega)]⟩
          · refine WS.d (by simp) (by simp; rfl) (by simp) (by kernel_rfl) ?_
            refine WS.d (by simp) (by simp; rfl) (by simp) (by kernel_rfl) ?_
            refine WS.d (by simp) (by simp; rfl) (by first | (simp; done) | (simp; omega)) (by kernel_rfl) ?_
            refine WS.d (by simp) (by simp; rfl) (by first | (simp; done) | (simp; omega)) (by kernel_rfl) ?_
            refine WS.d (by simp) (by simp; rfl) (by simp) (by kernel_rfl) ?_
            have hev : (ms[((lineCells n k)[i]?.getD 0).toNat]?.getD 0) % 2 = 0 := (maskOk_iff.1 mk).2.2
            have hwu : IntKind.u64.wrap (ms[((lineCells n k)[i]?.getD 0).toNat]?.getD 0) = ms[((lineCells n k)[i]?.getD 0).toNat]?.getD 0 := fin_all (p := fun m => IntKind.u64.wrap m = m) (N := 32) (by decide +kernel) m0 m1
            refine WS.callD [] [] (by simp) rfl (by simp; rfl) (by simp) (CallsA.at (by simp [hwu]) (by simp) (c_ones (ms[((lineCells n k)[i]?.getD 0).toNat]?.getD 0) m0 m1 hev)) (by kernel_rfl) ⟨_, _, rfl, rfl⟩ ?_
            rintro _ _ ⟨rfl, rfl⟩
            refine ⟨_, by simp; rfl, ?_⟩
            refine WS.d (by simp) (by simp; rfl) (by simp) (by kernel_rfl) ?_
            refine WS.d (by simp) (by simp; rfl) (by simp) (by kernel_rfl) ?_
            refine WS.keep [0, 1, 5, 7, 9, 11, 21, 22, 28, 29, 30, 38, 39, 40, 61] ?_
            refine WP.cond (by first | rfl | (simp; rfl)) (fun hb => ?_) (fun hb => ?_)
            · try simp at hb
              refine WP.exit ?_
              refine WP.regN prg (by kernel_rfl) ?_ -- region 21
              refine WN.op prg (by simp) (by simp; rfl) (by simp) ?_
              refine WN.op prg (by simp) (by simp; rfl) (by simp) ?_
              refine WN.keep [0, 1, 5, 7, 9, 21, 22, 28, 29, 30, 38, 39, 40] ?_
              have hno : pairC ms n k i (i + 1 + j) = false := by
                unfold pairC
                rw [decide_eq_false (p := (maskVals _).length = 2) (by unfold getI; omega), Bool.and_false]
              exact ⟨by omega, trivial, by simp [foldl_range, pairX, pair1, hno, wrap_id (n := (j : Int) + 1) (by omega) (by omega)]⟩
            · try simp at hb
              refine WP.skip ?_
              refine WP.seq ?_
              refine WP.regN prg (by kernel_rfl) ?_ -- region 15
              refine WN.op prg (by simp) (by simp; rfl) (by simp) ?_
              refine WN.op prg (by simp) (by simp; rfl) (by simp) ?_
              refine WN.op prg (by simp) (by simp; rfl) (by simp) ?_
              refine WN.keep [0, 1, 5, 7, 9, 11, 21, 22, 28, 29, 30, 38, 39, 40, 62, 63, 64] ?_
              refine WP.block ?_
              have hyes : pairC ms n k i (i + 1 + j) = true := by
                have h53 : ms[((lineCells n k)[i]?.getD 0).toNat]?.getD 0 = ms[((lineCells n k)[i + 1 + j]?.getD 0).toNat]?.getD 0 := by simpa using hg53
                exact Bool.and_eq_true_iff.2 ⟨decide_eq_true h53, decide_eq_true (by unfold getI; omega)⟩
              refine WP.loopU (n.toNat) (fun q => [(64, .v (.c (.int .i64 (q))))]) (fun q => [(152, .arr 0 true (.ints .i64 ((List.range q).foldl (pairK ms n k i (i + 1 + j)) ((List.range j).foldl (pairX ms n k i) ((List.range i).foldl (pairXI ms n k) ((List.range k).foldl (pairXL ms n) ms))))))]) (fun q => True) (fun k => by simp [putAll]; rfl) (fun k => by simp; rfl) (by simp) (by simp) (by simp) ?_
              intro q hk _
              have hoq : FOk ms.length ((List.range q).foldl (pairK ms n k i (i + 1 + j)) ((List.range j).foldl (pairX ms n k i) ((List.range i).foldl (pairXI ms n k) ((List.range k).foldl (pairXL ms n) ms)))) := foldl_ok (P := FOk ms.length) (fun b a hb => pairK_ok a hb) _ _ hoj
              have hinj := fun (h : q < n.toNat) => lineCells_inj hL h hin
              have hinj2 := fun (h : q < n.toNat) => lineCells_inj hL h hjn
              refine WP.seq ?_
              refine WP.regN prg (by kernel_rfl) ?_ -- region 16
              refine WN.op prg (by simp) (by simp; rfl) (by simp) ?_
              refine WN.keep [0, 1, 5, 7, 9, 11, 21, 22, 28, 29, 30, 38, 39, 40, 62, 63, 64, 65] ?_
              refine WP.seq ?_
              refine WP.cond (by first | rfl | (simp; rfl)) (fun hb => ?_) (fun hb => ?_)
              · try simp at hb
                refine WP.skip ?_
                refine WP.seq ?_
                refine WP.block ?_
                refine WP.seq ?_
                refine WP.regN prg (by kernel_rfl) ?_ -- region 17
                refine WN.op prg (by simp) (by simp; rfl) (by first | (simp; done) | (simp; omega)) ?_
                refine WN.op prg (by simp) (by simp; rfl) (by first | (simp; done) | (simp; omega)) ?_
                refine WN.op prg (by simp) (by simp; rfl) (by simp) ?_
                refine WN.keep [0, 1, 5, 7, 9, 11, 13, 21, 22, 28, 29, 30, 38, 39, 40, 62, 63, 64] ?_
                refine WP.seq ?_
                refine WP.regN prg (by kernel_rfl) ?_ -- region 18
                refine WN.op prg (by simp) (by simp; rfl) (by simp) ?_
                refine WN.op prg (by simp) (by simp; rfl) (by simp) ?_
                refine WN.op prg (by simp) (by simp; rfl) (by simp) ?_
                refine WN.op prg (by simp) (by simp; rfl) (by simp) ?_
                apply WN.join (t := 75) 4 71
                · first | rfl | (simp; rfl)
                · intro hg71
                  refine WN.op prg (by simp) (by simp; rfl) (by simp) ?_
                  refine WN.op prg (by simp) (by simp; rfl) (by simp) ?_
                  refine WN.op prg (by simp) (by simp; rfl) (by simp) ?_
                  refine WN.op prg (by simp) (by simp; rfl) (by simp) ?_
                  exact WN.keep [75, 0, 1, 5, 7, 9, 11, 13, 21, 22, 28, 29, 30, 38, 39, 40, 62, 63, 64] rfl
                · intro hg71
                  refine WN.skip prg (by simp) ?_
                  refine WN.skip prg (by simp) ?_
                  refine WN.skip prg (by simp) ?_
                  refine WN.op prg (by simp) (by simp; rfl) (by simp) ?_
                  exact WN.keep [75, 0, 1, 5, 7, 9, 11, 13, 21, 22, 28, 29, 30, 38, 39, 40, 62, 63, 64] rfl
                refine WN.keep [0, 1, 5, 7, 9, 11, 13, 21, 22, 28, 29, 30, 38, 39, 40, 62, 63, 64, 75] ?_
                refine WP.cond (by first | rfl | (simp; rfl)) (fun hb => ?_) (fun hb => ?_)
                · try simp at hb
                  refine WP.reg prg (by kernel_rfl) ?_ -- region 19 DRAWS
                  obtain ⟨_, hqn, e0, e1, o0, o1, ok, hee⟩ := mline hm hbk (j := q) (by omega)
                  have hoq1 := hoq.1
                  refine WS.d (by simp) (by simp; rfl) (by simp) (by kernel_rfl) ?_
                  refine WS.d (by simp) (by simp; rfl) (by simp) (by kernel_rfl) ?_
                  refine WS.d (by simp) (by simp; rfl) (by first | (simp; done) | (simp; omega)) (by kernel_rfl) ?_
                  refine WS.d (by simp) (by simp; rfl) (by first | (simp; done) | (simp; omega)) (by kernel_rfl) ?_
                  refine WS.d (by simp) (by simp; rfl) (by simp) (by kernel_rfl) ?_
                  refine WS.d (by simp) (by simp; rfl) (by simp) (by kernel_rfl) ?_
                  refine WS.d (by simp) (by simp; rfl) (by first | (simp; done) | (simp; omega)) (by kernel_rfl) ?_
                  refine WS.d (by simp) (by simp; rfl) (by first | (simp; done) | (simp; omega)) (by kernel_rfl) ?_
                  refine WS.d (by simp) (by simp; rfl) (by simp) (by kernel_rfl) ?_
                  refine WS.d (by simp) (by simp; rfl) (by first | (simp; done) | (simp; omega)) (by kernel_rfl) ?_
                  refine WS.d (by simp) (by simp; rfl) (by first | (simp; done) | (simp; omega)) (by kernel_rfl) ?_
                  refine WS.keep [0, 1, 5, 7, 9, 11, 21, 22, 28, 29, 30, 38, 39, 40, 62, 63, 64] ?_
                  refine WP.regN prg (by kernel_rfl) ?_ -- region 20
                  refine WN.op prg (by simp) (by simp; rfl) (by simp) ?_
                  refine WN.op prg (by simp) (by simp; rfl) (by simp) ?_
                  refine WN.keep [0, 1, 5, 7, 9, 11, 21, 22, 28, 29, 30, 38, 39, 40, 62, 63, 64] ?_
                  have hqn' : q < n.toNat := by omega
                  rw [hinj hqn', hinj2 hqn'] at hb
                  have hc : q ≠ i ∧ q ≠ i + 1 + j := hb
                  have g1 := hoq.get ((lineCells n k)[q]?.getD 0).toNat
                  exact ⟨by omega, trivial, by simp [foldl_range, pairK, hc, getI, bits_andNot g1.1 g1.2 m0 m1, wrap_id (n := (q : Int) + 1) (by omega) (by omega)]⟩
                · try simp at hb
                  refine WP.skip ?_
                  refine WP.regN prg (by kernel_rfl) ?_ -- region 20
                  refine WN.op prg (by simp) (by simp; rfl) (by simp) ?_
                  refine WN.op prg (by simp) (by simp; rfl) (by simp) ?_
                  refine WN.keep [0, 1, 5, 7, 9, 11, 21, 22, 28, 29, 30, 38, 39, 40, 62, 63, 64] ?_
                  have hqn' : q < n.toNat := by omega
                  rw [hinj hqn', hinj2 hqn'] at hb
                  have hc : ¬ (q ≠ i ∧ q ≠ i + 1 + j) := by omega
                  exact ⟨by omega, trivial, by simp [foldl_range, pairK, if_neg hc, wrap_id (n := (q : Int) + 1) (by omega) (by omega)]⟩
              · try simp at hb
                refine WP.exit ?_
                refine WP.regN prg (by kernel_rfl) ?_ -- region 21
                refine WN.op prg (by simp) (by simp; rfl) (by simp) ?_
                refine WN.op prg (by simp) (by simp; rfl) (by simp) ?_
                refine WN.keep [0, 1, 5, 7, 9, 21, 22, 28, 29, 30, 38, 39, 40] ?_
                have hqn : q = n.toNat := by omega
                exact ⟨by omega, trivial, by simp [foldl_range, pairX, pair1, hyes, hqn, wrap_id (n := (j : Int) + 1) (by omega) (by omega)]⟩
        · try simp at hb
          refine WP.exit ?_
          refine WP.regN prg (by kernel_rfl) ?_ -- region 22
          refine WN.op prg (by simp) (by simp; rfl) (by simp) ?_
          refine WN.op prg (by simp) (by simp; rfl) (by simp) ?_
          refine WN.keep [0, 1, 5, 7, 21, 22, 28, 29, 30] ?_
          have hjn : j = n.toNat - (i + 1) := by omega
          exact ⟨by omega, trivial, by simp [foldl_range, pairXI, hjn, wrap_id (n := (i : Int) + 1) (by omega) (by omega)]⟩
      · try simp at hb
        refine WP.exit ?_
        refine WP.regN prg (by kernel_rfl) ?_ -- region 23
        refine WN.op prg (by simp) (by simp; rfl) (by simp) ?_
        refine WN.op prg (by simp) (by simp; rfl) (by simp) ?_
        refine WN.keep [0, 1, 5, 21, 22] ?_
        have hqn : i = n.toNat := by omega
        exact ⟨by omega, trivial, by simp [foldl_range, pairXL, hqn, wrap_id (n := (k : Int) + 1) (by omega) (by omega)]⟩
    · try simp at hb
      refine WP.exit ?_
      refine WP.seq ?_
      refine WP.regN prg (by kernel_rfl) ?_ -- region 24
      refine WN.op prg (by simp) (by simp; rfl) (by simp) ?_
      refine WN.op prg (by simp) (by simp; rfl) (by simp) ?_
      refine WN.keep [4] ?_
      refine WP.ret (DoneQ.ret [] (by simp; rfl) (by simp; rfl) ?_)
      have hkk : k = (2 * n).toNat := by omega
      have hl := hok.1
      rw [hkk] at hl
      have e : narrow3 ms n = (List.range (2 * n).toNat).foldl (pairXL ms n) ms := by
        simp only [narrow3, hm, if_true]
        exact foldl_congr' _ _ fun b a ha => (pairXL_eq h2 h4 b a).symm
      exact ⟨rfl, by simp [e, hkk, List.take_of_length_le, hl]⟩
end Go.Proofs.Ytaicenafkjbnoaa

