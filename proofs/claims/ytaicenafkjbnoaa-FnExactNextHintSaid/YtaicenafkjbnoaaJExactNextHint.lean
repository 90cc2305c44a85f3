/- The program's NextHint returns what the reference's returns, for all puzzles and grids that can be read. -/
import Derived.Test.YtaicenafkjbnoaaJP
set_option linter.unusedVariables false
namespace Go.Proofs.Ytaicenafkjbnoaa.fnExactNextHint
open Go Go.AM Go.ChangeShapes Go.WideShapes Go.ChangeAt Go.RowKit Go.Joins
open Go.ChangeMaps (open_string shut_string)

open whole (own laidOut)
set_option maxRecDepth 100000 in
theorem lifted (os : Os) (started : os.Started) (H : Type) (enc : TypeId × Value → H) :
    ReturnsInHanded {} Try.checked os 4 .any (Rows.fnExactNextHintSpec.pre6 enc Try.prog Try.f4 Rows.fnExactNextHintRow.domain false) (Rows.fnExactNextHintSpec.post enc Try.prog Try.f4 false true false false) := by
  refine returnsInHanded_of_change (C := Try.checked) own started (by kernel_rfl) Try.func4
    (ChangeSpec.witness6 (enc := enc) (C := Try.checked) false ⟨#[], #[.agg #[.int .i64 0, .slice none 0 0, .slice none 0 0], .slice none 0 0], []⟩ 8 (by kernel_rfl) (by kernel_rfl) (by kernel_rfl) (by kernel_rfl)) ?_
  intro W base args ds gs before hval0 hW hcnd _
  have hval : ∀ (j : Nat) t v, Try.f4.params[j]? = some t → args[j]? = some v → Value.okWide Try.prog W .any base t v := hval0
  have hW' := hW
  obtain ⟨p, q, hA0, hV, rfl, hfz, hnd⟩ := hW
  have hA : DataW.TrodAll enc Try.prog W 0 (fun _ => true) true Try.f4.params.toList args.toList ds p := hA0
  rw [Try.params4] at hA hval
  obtain ⟨v0, vs0, d0, ds0, p0, q0, hargs, rfl, rfl, h0, r0⟩ := trodAll_cons hA
  obtain ⟨v1, vs1, d1, ds1, p1, q1, rfl, rfl, rfl, h1, r1⟩ := trodAll_cons r0
  obtain ⟨rfl, rfl, rfl⟩ := trodAll_nil r1
  obtain rfl : args = #[v0, v1] := by cases args; simp_all
  obtain ⟨rfl, rfl⟩ := trodVars_none hV
  have k0 := h0
  have k1 := h1
  have lt0 : ∀ x ∈ p0, x.block < W.heap.size := by obtain ⟨m, hm⟩ := k0; exact DataW.trod_lt m _ _ _ hm
  have lt1 : ∀ x ∈ p1, x.block < W.heap.size := by obtain ⟨m, hm⟩ := k1; exact DataW.trod_lt m _ _ _ hm
  obtain ⟨u0, u1, u2, y0, y1, y2, n, rfl, hd0, hp0, g0, g1, g2⟩ := open_agg3 Try.underlying35 (by kernel_rfl) (by kernel_rfl) (hval 0 35 v0 rfl rfl) h0
  obtain ⟨z0, e0, _, _⟩ := DataW.trod_int Try.underlying3 g0
  simp at e0
  subst e0
  obtain ⟨gv, hgv, hgl, _⟩ := reads_ints Try.underlying23 Try.underlying3 (by kernel_rfl) g1
  obtain ⟨rs, hrs, hrl, hrc⟩ := reads_rules Try.underlying33 Try.underlying129 (by kernel_rfl) Try.underlying3 Try.underlying23 Try.underlying3 Try.underlying3 ⟨by kernel_rfl, rfl⟩ ⟨by kernel_rfl, rfl⟩ ⟨by kernel_rfl, rfl⟩ (by kernel_rfl) g2
  obtain ⟨a0, len0, cap0, rfl⟩ := okWide_slice Try.underlying23 (hval 1 23 v1 rfl rfl)
  obtain ⟨fuel, hf⟩ := h1
  obtain ⟨g, hg, hgl2, _⟩ := reads_ints Try.underlying23 Try.underlying3 (by kernel_rfl) (by simpa [Value.cells] using hf)
  have hmax : maxLen = 9223372036854775807 := by decide
  rw [hmax] at hgl hrl hrc hgl2
  have K := c_exactNextHint ⟨z0, gv, rs⟩ g ⟨hgl, hrl, hrc⟩ hgl2
  clear hA0 hval0
  refine (calls_of_A K W #[.agg #[.int .i64 z0, u1, u2], .slice a0 len0 cap0] rfl (fun i a ha => ?_)).mono fun e W' ⟨v, he, bel, pl', hv⟩ => ?_
  · match i, ha with
    | 0, ha =>
      simp only [List.getElem?_cons_zero, Option.some.injEq] at ha
      subst ha
      refine ⟨_, rfl, #[.int .i64 z0, u1, u2], rfl, rfl, fun j c hc => ?_⟩
      match j, hc with
      | 0, hc => simp at hc; subst hc; exact ⟨_, rfl, rfl⟩
      | 1, hc => simp at hc; subst hc; exact ⟨_, rfl, cr_row rfl hgv⟩
      | 2, hc => simp at hc; subst hc; exact ⟨_, rfl, cr_row rfl hrs⟩
      | j + 3, hc => simp at hc
    | 1, ha =>
      simp only [List.getElem?_cons_succ, List.getElem?_cons_zero, Option.some.injEq] at ha
      subst ha
      exact ⟨_, rfl, cr_row rfl hg⟩
    | i + 2, ha => simp at ha
  · obtain rfl : v = .bool true := hv
    subst he
    exact ⟨_, rfl, _, _, _, [], _, [], hW', trodAll_mk1 (shut_bool Try.underlying4 _), (trodAll_cons_mk (Below.trod laidOut (by kernel_rfl) (of_decide_eq_true (by kernel_rfl)) k0 bel lt0) (trodAll_cons_mk (Below.trod laidOut (by kernel_rfl) (of_decide_eq_true (by kernel_rfl)) k1 bel lt1) trodAll_mk0)), rfl, bel.frame _, fun h => by cases h⟩
theorem k0 : (Rows.fnExactNextHintRow.wf (OpenSpec.ofChange Rows.fnExactNextHintSpec)) = true := by kernel_rfl
theorem k3 : (Try.f4.params.all (Try.pinned.checked.prog.readableRec ·)) = true := by kernel_rfl
theorem k4 : (namedTie Try.pinned.checked.prog Rows.fnExactNextHintRow.named Rows.fnExactNextHintSpec.vars) = true := by kernel_rfl
theorem k5 : ((Rows.fnExactNextHintRow.stops == [])) = true := by kernel_rfl
theorem k7 : ((Rows.fnExactNextHintRow.knobs == [])) = true := by kernel_rfl
theorem k9 : ((Rows.fnExactNextHintRow.inPlace == Try.pinned.checked.prog.inPlace 4)) = true := by kernel_rfl
theorem k10 : ((Rows.fnExactNextHintRow.unfollowed == Try.pinned.checked.prog.unfollowed 4)) = true := by kernel_rfl
theorem k11 : ((Rows.fnExactNextHintRow.recurses == Try.pinned.checked.prog.recurses 4)) = true := by kernel_rfl
theorem k12 : ((Rows.fnExactNextHintRow.named == Try.pinned.checked.prog.varsNamed 4)) = true := by kernel_rfl
theorem k13 : ((Rows.fnExactNextHintRow.maps == (Try.f4.params.toList ++ Rows.fnExactNextHintSpec.plain.varTypes Try.pinned.checked.prog).any (Try.pinned.checked.prog.mapsRec ·))) = true := by kernel_rfl
theorem k14 : ((Rows.fnExactNextHintRow.ifaces == (Try.f4.params.toList ++ Rows.fnExactNextHintSpec.plain.varTypes Try.pinned.checked.prog).any (Try.pinned.checked.prog.ifacesRec ·))) = true := by kernel_rfl
theorem k15 : ((Rows.fnExactNextHintRow.mapsOut == Try.pinned.checked.prog.mapsAmong Try.f4.resultTypes.toList)) = true := by kernel_rfl
theorem k16 : ((Rows.fnExactNextHintRow.loops == (Try.f4.params.toList ++ Rows.fnExactNextHintSpec.plain.varTypes Try.pinned.checked.prog).any (Try.pinned.checked.prog.loopsFrom ·))) = true := by kernel_rfl
theorem k17 : ((Rows.fnExactNextHintRow.wideKeys == (Try.f4.params.toList ++ Rows.fnExactNextHintSpec.plain.varTypes Try.pinned.checked.prog ++ Try.f4.resultTypes.toList).any (Try.pinned.checked.prog.wideKeysFrom ·))) = true := by kernel_rfl
theorem k18 : (Rows.fnExactNextHintSpec.vars.all (Try.pinned.checked.prog.varReadable ·)) = true := by kernel_rfl
theorem k19 : (Try.f4.resultTypes.all (fun t => Try.pinned.checked.prog.readableRec t && decide (t < Try.pinned.checked.prog.types.size))) = true := by kernel_rfl
theorem k20 : ((Rows.fnExactNextHintRow.ifacesOut == Try.f4.resultTypes.toList.any (Try.pinned.checked.prog.ifacesRec ·))) = true := by kernel_rfl
theorem k21 : ((Rows.fnExactNextHintRow.loopsOut == Try.f4.resultTypes.toList.any (Try.pinned.checked.prog.loopsFrom ·))) = true := by kernel_rfl
theorem k22 : ((Rows.fnExactNextHintRow.plainKeys == Try.pinned.checked.prog.plainKeys)) = true := by kernel_rfl
theorem k23 : (Rows.fnExactNextHintRow.shortTexts.isNone) = true := by kernel_rfl
theorem k26 : ((Rows.fnExactNextHintRow.lifted == Try.pinned.checked.prog.liftsFinal)) = true := by kernel_rfl
theorem k27 : ((Try.pinned.checked.prog.make == some Rows.fnExactNextHintRow.make)) = true := by kernel_rfl
theorem k29 : ((Rows.fnExactNextHintRow.pinned == Rows.fnExactNextHintRow.pinnedBy)) = true := by kernel_rfl
theorem k30 : ((Rows.fnExactNextHintRow.veiled == (Try.f4.params.toList ++ Rows.fnExactNextHintSpec.plain.varTypes Try.pinned.checked.prog ++ Try.f4.resultTypes.toList).any (Try.pinned.checked.prog.veiledRec ·))) = true := by kernel_rfl
theorem k31 : (Rows.fnExactNextHintRow.veiledFits Try.pinned.checked.prog Try.f4.params.toList (Try.f4.params.toList ++ Rows.fnExactNextHintSpec.plain.varTypes Try.pinned.checked.prog ++ Try.f4.resultTypes.toList)) = true := by kernel_rfl
theorem named : Try.pinned.checked.prog.funcNamed Rows.fnExactNextHintRow.func = some 4 := by kernel_rfl
theorem inst : Try.f4.isInstance Try.pinned.checked.prog Rows.fnExactNextHintRow.origin Rows.fnExactNextHintRow.targs := of_decide_eq_true (by kernel_rfl)
theorem wrap : Try.f4.isWrapper Try.pinned.checked.prog Rows.fnExactNextHintRow.wrapper Rows.fnExactNextHintRow.mainSum := by
  unfold Func.isWrapper
  rw [if_neg (of_decide_eq_false (by kernel_rfl))]
  exact ⟨rfl, rfl⟩
theorem over : Rows.fnExactNextHintRow.holds Try.pinned (OpenSpec.ofChange Rows.fnExactNextHintSpec) :=
  OpenClaim.holds_of_wide 4 Try.f4 rfl rfl rfl rfl rfl rfl rfl ⟨rfl, rfl, rfl, rfl, rfl⟩ rfl rfl rfl rfl rfl named Try.func4
    (joined_of k0 whole.k1 whole.k2 k3 k4 k5 whole.k6 k7 whole.k8 k9 k10 k11 k12 k13 k14 k15 k16 k17 k18 k19 k20 k21 k22 k23 whole.k24 whole.k25 k26 k27 (by kernel_rfl) k29 k30 k31) inst wrap
    (fun os started H enc _ => lifted os started H enc)
/-- The statement. -/
theorem proved : Rows.FnExactNextHintSaid := over
#print axioms proved
end Go.Proofs.Ytaicenafkjbnoaa.fnExactNextHint
