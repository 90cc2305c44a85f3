/- What arguments read as, told to the abstract machine; a contract as the frame wants it. -/
import Derived.Test.YtaicenafkjbnoaaC20
import Derived.Test.YtaicenafkjbnoaaRows
import Derived.ProofKit
import Derived.OpenShut
import Derived.ChangeOld
import Derived.Below
import Derived.Lib.SmallJoins
import Derived.Deep.Slices
import Derived.Deep.Strs
set_option linter.unusedVariables false
set_option linter.unusedSimpArgs false
namespace Go.Proofs.Ytaicenafkjbnoaa
open Go Go.AM Go.ChangeShapes Go.WideShapes Go.ChangeAt Go.RowKit Go.Deep Go.Joins

section
variable {P : Program} {H : Type} {enc : TypeId × Value → H} {W : World} {base : Nat} {spare : Nat → Bool} {held : Bool} {fuel : Nat}
instance : Inhabited Rule := ⟨⟨0, [], 0⟩⟩
def NoZ : Nat → Prop := fun _ => False
theorem reads_nil (d : D) {es : Nat} (he : d.elems = some (es, [])) (hes : 0 < es) : Reads NoZ W (.slice none 0 0) d :=
  .slice none 0 0 d es [] he rfl (Nat.le_refl _) hes (by simp) ⟨0, 0, none⟩ (fun _ _ => undef) (fun h => absurd h (by omega)) (fun j o hj => absurd hj (by omega)) (fun j o e h => by simp at h)
theorem reads_ints {t e : TypeId} {k : IntKind} {v : Value} {x : DataW H × List MemPlace} (ht : P.underlying t = some (.slice e)) (he : P.underlying e = some (.int k)) (hc : P.cellsOf e = 1)
    (h : DataW.trod enc P W base spare held fuel t [v] = some x) : ∃ l : List Int, Reads NoZ W v (.ints k l) ∧ l.length ≤ maxLen ∧ (∀ n ∈ l, (Lit.int k n).wf = true) := by
  rcases open_slice1 ht hc h with ⟨hv, _⟩ | ⟨a, len, cap, m, n, V, D', Pl, hv, hb, hl, hm, hmm, _, hx⟩
  · simp at hv
    subst hv
    exact ⟨[], reads_nil _ (es := 1) rfl (by omega), by simp, by simp⟩
  · simp at hv
    subst hv
    have hlm : len ≤ m := by rw [hmm]; split <;> omega
    have hz : ∀ i, i < m → ∃ z : Int, V i = .int k z ∧ (Lit.int k z).wf = true := fun i hi => by
      obtain ⟨z, hz, _, hw⟩ := DataW.trod_int he (hx i hi).2
      simp at hz
      exact ⟨z, hz, hw⟩
    obtain ⟨Z, hZ⟩ := choose_lt (α := Int) (p := fun i z => V i = .int k z ∧ (Lit.int k z).wf = true) hz
    refine ⟨(List.range len).map Z, ?_, by simp; omega, fun n hn => ?_⟩
    · refine .slice (some a) len cap _ 1 _ rfl (by simp) hl (by omega) (by simp) a (fun j _ => V j) (fun _ => ⟨rfl, id⟩) (fun j o hj ho => ?_) (fun j o e he => ?_)
      · have := (hx j (by omega)).1
        rw [show j * 1 + o = j by omega]
        exact this
      · simp only [List.getElem?_map] at he
        by_cases hj : j < len
        · rw [List.getElem?_range hj] at he
          cases o with
          | zero =>
            simp at he
            subst he
            rw [(hZ j (by omega)).1]
            exact .int k _
          | succ o => simp at he
        · rw [List.getElem?_eq_none (by simp; omega)] at he
          simp at he
    · obtain ⟨i, hi, rfl⟩ := List.mem_map.1 hn
      exact (hZ i (by have := List.mem_range.1 hi; omega)).2
theorem reads_rules {t e : TypeId} {e1 : TypeId} {f0 f1 f2 : Field} {v : Value} {x : DataW H × List MemPlace} (ht : P.underlying t = some (.slice e)) (he : P.underlying e = some (.struct #[f0, f1, f2])) (hce : P.cellsOf e = 3)
    (h0 : P.underlying f0.type = some (.int .i64)) (h1 : P.underlying f1.type = some (.slice e1)) (h1e : P.underlying e1 = some (.int .i64)) (h2 : P.underlying f2.type = some (.int .i64))
    (c0 : P.cellsOf f0.type = 1 ∧ f0.offset = 0) (c1 : P.cellsOf f1.type = 1 ∧ f1.offset = 1) (c2 : P.cellsOf f2.type = 1 ∧ f2.offset = 2) (ce : P.cellsOf e1 = 1)
    (h : DataW.trod enc P W base spare held fuel t [v] = some x) : ∃ rs : List Rule, Reads NoZ W v (.recs 3 (rs.map Rule.d)) ∧ rs.length ≤ maxLen ∧ ∀ r ∈ rs, r.cells.length ≤ maxLen := by
  rcases open_slice ht h with ⟨hv, _⟩ | ⟨a, len, cap, m, n, D', Pl, hv, hb, hl, hm, hmm, _, hx⟩
  · simp at hv
    subst hv
    exact ⟨[], reads_nil _ (es := 3) rfl (by omega), by simp, by simp⟩
  · simp at hv
    subst hv
    rw [hce] at hx
    have hlm : len ≤ m := by rw [hmm]; split <;> omega
    have hz : ∀ i, i < m → ∃ q : Rule × (Nat → Value), (∀ o, o < 3 → W.cell? (a.add (i * 3 + o)) = some (q.2 o)) ∧ Reads NoZ W (q.2 0) (.int .i64 q.1.kind) ∧ Reads NoZ W (q.2 1) (.ints .i64 q.1.cells) ∧ Reads NoZ W (q.2 2) (.int .i64 q.1.value) ∧ q.1.cells.length ≤ maxLen := fun i hi => by
      obtain ⟨cs, hcs, htr⟩ := hx i hi
      obtain ⟨_, hlen, hcell⟩ := World.cells?_some hcs
      match cs, hlen with
      | [u0, u1, u2], _ =>
        obtain ⟨y0, y1, y2, n', _, _, g0, g1, g2⟩ := trod_struct3 he htr
        rw [c0.1, c0.2] at g0
        rw [c1.1, c1.2] at g1
        rw [c2.1, c2.2] at g2
        simp at g0 g1 g2
        obtain ⟨z0, e0, _, _⟩ := DataW.trod_int h0 g0
        obtain ⟨z2, e2, _, _⟩ := DataW.trod_int h2 g2
        obtain ⟨l, hl1, hl2, _⟩ := reads_ints h1 h1e ce g1
        simp at e0 e2
        subst e0 e2
        refine ⟨(⟨z0, l, z2⟩, fun o => [Value.int .i64 z0, u1, Value.int .i64 z2].getD o undef), fun o ho => ?_, .int _ _, hl1, .int _ _, hl2⟩
        have := hcell o ho
        have hadd : (a.add (i * 3)).add o = a.add (i * 3 + o) := Go.Deep.add_add a (i * 3) o
        rw [hadd] at this
        rw [this]
        have : o = 0 ∨ o = 1 ∨ o = 2 := by omega
        rcases this with rfl | rfl | rfl <;> rfl
    obtain ⟨Q, hQ⟩ := choose_lt (α := Rule × (Nat → Value)) (p := fun i q => (∀ o, o < 3 → W.cell? (a.add (i * 3 + o)) = some (q.2 o)) ∧ Reads NoZ W (q.2 0) (.int .i64 q.1.kind) ∧ Reads NoZ W (q.2 1) (.ints .i64 q.1.cells) ∧ Reads NoZ W (q.2 2) (.int .i64 q.1.value) ∧ q.1.cells.length ≤ maxLen) hz
    refine ⟨(List.range len).map fun i => (Q i).1, ?_, by simp; omega, fun r hr => ?_⟩
    · refine .slice (some a) len cap _ 3 _ rfl (by simp) hl (by omega) (by simp [Rule.d]) a (fun j o => (Q j).2 o) (fun _ => ⟨rfl, id⟩) (fun j o hj ho => (hQ j (by omega)).1 o ho) (fun j o e he => ?_)
      simp only [List.getElem?_map] at he
      by_cases hj : j < len
      · rw [List.getElem?_range hj] at he
        simp only [Option.map_some, Option.bind_some, Rule.d] at he
        obtain ⟨_, r0, r1, r2, _⟩ := hQ j (by omega)
        match o, he with
        | 0, he => simp at he; subst he; exact r0
        | 1, he => simp at he; subst he; exact r1
        | 2, he => simp at he; subst he; exact r2
        | o + 3, he => simp at he
      · rw [List.getElem?_eq_none (by simp; omega)] at he
        simp at he
    · obtain ⟨i, hi, rfl⟩ := List.mem_map.1 hr
      exact (hQ i (by have := List.mem_range.1 hi; omega)).2.2.2.2
end
/-- A contract that lends nothing, as the frame wants it. -/
theorem calls_of_A {P : Program} {f : FuncId} {args : List V} {x : LV} (K : CallsA P f args [] fun r ho => ho = [] ∧ r = x) (W : World) (vs : Array Value) (hs : vs.size = args.length)
    (ha : ∀ (i : Nat) a, args[i]? = some a → ∃ u, vs[i]? = some u ∧ VR ⟨W.heap.size, NoZ⟩ [] ⟨fun _ => none, fun _ => 0⟩ W a u) :
    Calls P f vs W fun e W' => ∃ v, e = .returned v ∧ Below W.heap.size W W' ∧ ∃ pl', LVR ⟨W.heap.size, NoZ⟩ [] pl' W' x v := by
  have hH : HR ⟨W, ⟨fun _ => none, fun _ => 0⟩, [], NoZ⟩ [] ⟨fun _ => none, fun _ => 0⟩ W :=
    ⟨rfl, rfl, rfl, Nat.le_refl _, fun _ _ _ => rfl, fun id o b h => by simp [getA] at h, fun id id' o o' b h => by simp [getA] at h, fun b h => h.elim, fun id o b h => by simp [getA] at h, fun id o h => by simp [getA] at h, fun id o oi h => by simp [getA] at h, fun id o h => by simp [getA] at h⟩
  refine (K.run W _ NoZ vs hH hs ha).mono fun e W' ⟨v, r, ho, pl', he, ⟨h1, h2⟩, hR, hv⟩ => ?_
  subst h1 h2
  exact ⟨v, he, ⟨hR.os, hR.tape, hR.output, hR.size, fun k hk => hR.frame k hk fun id o h => by simp [getA] at h⟩, pl', hv⟩
theorem vr_int {B : Bs} {pl : Pl} {W : World} {k : IntKind} {n : Int} : VR B [] pl W (.c (.int k n)) (.int k n) := rfl
theorem cr_row {n : Nat} {pl : Pl} {W : World} {v : Value} {d : D} (hd : d.isRow = true) (h : Reads NoZ W v d) : CR ⟨n, NoZ⟩ [] pl W (.dsl false d) v := by
  refine ⟨hd, h.mono fun b _ _ => ⟨?_, rfl⟩⟩
  rintro (⟨id, o, h1, _⟩ | ⟨h1, _⟩ | h1)
  · simp [getA] at h1
  · cases h1
  · exact h1

/-- The closed facts of a join, asked one by one. -/
theorem joined_of {P : Program} {f : FuncId} {fn : Func} {s : ChangeSpec} {c : OpenClaim}
    (k0 : (c.wf (OpenSpec.ofChange s)) = true)
    (k1 : (laidOutB P) = true)
    (k2 : (mapsRowed P) = true)
    (k3 : (fn.params.all (P.readableRec ·)) = true)
    (k4 : (namedTie P c.named s.vars) = true)
    (k5 : ((c.stops == [])) = true)
    (k6 : ((P.stops == [])) = true)
    (k7 : ((c.knobs == [])) = true)
    (k8 : ((P.stopKnobs == [])) = true)
    (k9 : ((c.inPlace == P.inPlace f)) = true)
    (k10 : ((c.unfollowed == P.unfollowed f)) = true)
    (k11 : ((c.recurses == P.recurses f)) = true)
    (k12 : ((c.named == P.varsNamed f)) = true)
    (k13 : ((c.maps == (fn.params.toList ++ s.plain.varTypes P).any (P.mapsRec ·))) = true)
    (k14 : ((c.ifaces == (fn.params.toList ++ s.plain.varTypes P).any (P.ifacesRec ·))) = true)
    (k15 : ((c.mapsOut == P.mapsAmong fn.resultTypes.toList)) = true)
    (k16 : ((c.loops == (fn.params.toList ++ s.plain.varTypes P).any (P.loopsFrom ·))) = true)
    (k17 : ((c.wideKeys == (fn.params.toList ++ s.plain.varTypes P ++ fn.resultTypes.toList).any (P.wideKeysFrom ·))) = true)
    (k18 : (s.vars.all (P.varReadable ·)) = true)
    (k19 : (fn.resultTypes.all (fun t => P.readableRec t && decide (t < P.types.size))) = true)
    (k20 : ((c.ifacesOut == fn.resultTypes.toList.any (P.ifacesRec ·))) = true)
    (k21 : ((c.loopsOut == fn.resultTypes.toList.any (P.loopsFrom ·))) = true)
    (k22 : ((c.plainKeys == P.plainKeys)) = true)
    (k23 : (c.shortTexts.isNone) = true)
    (k24 : (P.stopsHeard) = true)
    (k25 : (P.mayEnter) = true)
    (k26 : ((c.lifted == P.liftsFinal)) = true)
    (k27 : ((P.make == some c.make)) = true)
    (k28 : ((c.kinds == (if c.domain.isEmpty then [] else fn.params.toList.map fun t => match P.underlying t with | some (.int k) => some k | _ => none))) = true)
    (k29 : ((c.pinned == c.pinnedBy)) = true)
    (k30 : ((c.veiled == (fn.params.toList ++ s.plain.varTypes P ++ fn.resultTypes.toList).any (P.veiledRec ·))) = true)
    (k31 : (c.veiledFits P fn.params.toList (fn.params.toList ++ s.plain.varTypes P ++ fn.resultTypes.toList)) = true) : joinedFacts P f fn s c = true := by
  unfold joinedFacts
  simp only [Bool.and_eq_true]
  exact ⟨⟨⟨⟨⟨⟨⟨⟨⟨⟨⟨⟨⟨⟨⟨⟨⟨⟨⟨⟨⟨⟨⟨⟨⟨⟨⟨⟨⟨⟨⟨k0, k1⟩, k2⟩, k3⟩, k4⟩, k5⟩, k6⟩, k7⟩, k8⟩, k9⟩, k10⟩, k11⟩, k12⟩, k13⟩, k14⟩, k15⟩, k16⟩, k17⟩, k18⟩, k19⟩, k20⟩, k21⟩, k22⟩, k23⟩, k24⟩, k25⟩, k26⟩, k27⟩, k28⟩, k29⟩, k30⟩, k31⟩
end Go.Proofs.Ytaicenafkjbnoaa
