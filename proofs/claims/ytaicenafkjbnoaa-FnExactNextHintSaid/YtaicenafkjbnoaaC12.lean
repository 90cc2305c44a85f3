/- Contracts: all solutions (reference). -/
import Derived.Test.YtaicenafkjbnoaaC11
set_option linter.unusedVariables false
set_option linter.unusedSimpArgs false
namespace Go.Proofs.Ytaicenafkjbnoaa
open Go Go.AM
set_option maxRecDepth 100000

theorem LeC.own (fr : Bool) (d : D) : LeC (.dsl fr d) (.dsl false d) := by
  cases fr
  · exact LeC.refl _
  · exact LeC.fresh d
def solsN (p : Puzzle) (most : Nat) : List (List Int) := (sols p p.given).take most
theorem ext_self (p : Puzzle) : ext p.given p.given := ext.refl _
theorem w_l5All (p : Puzzle) (most : Nat) (hp : p.Fits) (hm : 1 ≤ most) (hm2 : most ≤ 1000) : CallsA Try.prog 177 [p.v false, .c (.int .i64 (most))] [] fun x ho => ho = [] ∧ LeLV x (.v (.c (.dsl false (.recs 1 (rowsD (solsN p most)))))) := by
  unfold Puzzle.v rulesD
  refine CallsA.of (tv := tyOf Try.prog) (fn := Try.f177) prg.tv Try.func177 rfl rfl (by simp) ?_
  refine WP.seq ?_
  refine WP.regN prg (by kernel_rfl) ?_ -- region 0
  refine WN.op prg (by simp) (by simp; rfl) (by simp) ?_
  refine WN.op prg (by simp) (by simp; rfl) (by simp) ?_
  refine WN.keep [1, 2] ?_
  refine WP.seq ?_
  refine WP.regN prg (by kernel_rfl) ?_ -- region 1
  refine WN.op prg (by simp) (by simp; rfl) (by simp) ?_
  refine WN.op prg (by simp) (by simp; rfl) (by simp) ?_
  refine WN.op prg (by simp) (by simp; rfl) (by first | (simp; done) | (simp; omega)) ?_
  refine WN.keep [1, 2, 5] ?_
  refine WP.seq ?_
  refine WP.seq ?_
  refine WP.regN prg (by kernel_rfl) ?_ -- region 2
  refine WN.op prg (by simp) (by simp; rfl) (by first | (simp; done) | (simp; omega)) ?_
  refine WN.op prg (by simp) (by simp; rfl) (by simp) ?_
  refine WN.op prg (by simp) (by simp; rfl) (by first | (simp; done) | (simp; omega)) ?_
  refine WN.call prg [] [] (by simp) rfl (by simp; rfl) (by simp) (CallsA.at (by simp) (by simp) (c_specPuzzleFits p p.given hp hp.given)) ?_
  rintro _ _ ⟨rfl, rfl⟩
  refine ⟨_, by simp; rfl, ?_⟩
  refine WN.keep [1, 2, 5, 10] ?_
  refine WP.cond (by first | rfl | (simp; rfl)) (fun hb => ?_) (fun hb => ?_)
  · try simp at hb
    refine WP.regN prg (by kernel_rfl) ?_ -- region 3
    refine WN.op prg (by simp) (by simp; rfl) (by first | (simp; done) | (simp; omega)) ?_
    refine WN.op prg (by simp) (by simp; rfl) (by simp) ?_
    refine WN.op prg (by simp) (by simp; rfl) (by first | (simp; done) | (simp; omega)) ?_
    refine WN.op prg (by simp) (by simp; rfl) (by simp) ?_
    have hpf : puzzleOk p = true ∧ gridOk p.given p.size = true := by
      simp only [puzzleFits, Bool.and_eq_true] at hb
      exact ⟨hb.1.1.1, hb.1.1.2⟩
    refine WN.call prg [40, 48] [] (by simp) rfl (by simp; rfl) (by simp) (CallsA.at (by simp) (by simp) (c_l5Search p hpf.1 most hm2 p.given [] true hpf.2 (ext_self p) (by simp; omega))) ?_
    rintro _ _ ⟨v', fr', rfl, rfl⟩
    refine ⟨_, by simp; rfl, ?_⟩
    refine WN.keep [5] ?_
    refine WP.seq ?_
    refine WP.regN prg (by kernel_rfl) ?_ -- region 4
    refine WN.op prg (by simp) (by simp; rfl) (by first | (simp; done) | (simp; omega)) ?_
    refine WN.op prg (by simp) (by simp; rfl) (by simp) ?_
    refine WN.keep [4] ?_
    refine WP.ret (DoneQ.ret [] (by simp; rfl) (by simp; rfl) ?_)
    have e : tkL most [] (search p.size p.rules p.given.length 0 p.given) = solsN p most := by simp [solsN, sols, hb, tkL]
    exact ⟨rfl, by simp [e, List.take_of_length_le]; exact LeLV.c (LeC.own _ _)⟩
  · try simp at hb
    refine WP.skip ?_
    refine WP.seq ?_
    refine WP.regN prg (by kernel_rfl) ?_ -- region 4
    refine WN.op prg (by simp) (by simp; rfl) (by first | (simp; done) | (simp; omega)) ?_
    refine WN.op prg (by simp) (by simp; rfl) (by simp) ?_
    refine WN.keep [4] ?_
    refine WP.ret (DoneQ.ret [] (by simp; rfl) (by simp; rfl) ?_)
    have e : solsN p most = [] := by simp [solsN, sols, hb]
    exact ⟨rfl, by simp [e]; exact LeLV.c (LeC.own _ _)⟩
theorem c_l5All (p : Puzzle) (most : Nat) (hp : p.Fits) (hm : 1 ≤ most) (hm2 : most ≤ 1000) : CallsA Try.prog 177 [p.v false, .c (.int .i64 (most))] [] fun x ho => ho = [] ∧ x = .v (.c (.dsl false (.recs 1 (rowsD (solsN p most))))) := CallsA.le (w_l5All p most hp hm hm2)
end Go.Proofs.Ytaicenafkjbnoaa

