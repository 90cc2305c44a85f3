/- The abstract machine's plain operations are the model's. -/
import Derived.Test.YtaicenafkjbnoaaAmC
import Derived.Laws.AppendOwn
import Derived.Laws.Rows
import Derived.Laws.Tables
import Derived.Laws.CopyRow
import Derived.Laws.Build
import Derived.Laws.Slices
import Derived.Laws.Strings
import Derived.Laws.MakeOwn
import Derived.Laws.BytesArg
set_option linter.unusedVariables false
set_option linter.unusedSimpArgs false
set_option linter.unusedSectionVars false
namespace Go.AM

/-- The model carries the operation out as the step says. -/
def Sim (P : Program) (E : Ent) (n : Nat) (s : St) (a : Act) (w : World) (o : Oper) (st : Step) : Prop :=
  ∃ nx w', (execOp a.eval o).run P w = .ok nx w' ∧
    ((∃ v, nx = .value v ∧ Rel E n (s.app o.dst st) (a.put o.dst v) w') ∨ (nx = .skip ∧ Rel E n (s.app o.dst st) (a.put o.dst undef) w'))
theorem Sim.wp {P : Program} {E : Ent} {n : Nat} {s : St} {a : Act} {w : World} {o : Oper} {st : Step} (h : Sim P E n s a w o st) (Q : Exit → Act → World → Prop) :
    o.wp P a w (fun a' w' => Rel E n (s.app o.dst st) a' w') Q := by
  obtain ⟨nx, w', hr, h⟩ := h
  unfold Oper.wp
  rw [hr]
  rcases h with ⟨v, rfl, h⟩ | ⟨rfl, h⟩
  · exact h
  · exact h

section
variable {P : Program} {E : Ent} {n : Nat} {s : St} {a : Act} {w : World} {pl : Pl} {dst : Option Tmp} {ty : TypeId} {pos : String} {aft : Array Edge} {g : Option (Nat × Bool)}
/-- A step that leaves the world and the objects as they are. -/
theorem sim_val (hH : HR E s.heap pl w) (hdf : a.defers = []) (hn : a.tmps.size = n) (henv : ∀ t lv, getA t s.env = some lv → LVR E.b s.heap pl w lv (a.tmps.getD t undef))
    (hd : ∀ d, dst = some d → d < n) {o : Oper} (ho : o.dst = dst) {st : Step} (hu : st.upd = []) {v : Value} (hr : (execOp a.eval o).run P w = .ok (.value v) w)
    (hv : LVR E.b s.heap pl w st.val v) : Sim P E n s a w o st := by
  refine ⟨_, w, hr, .inl ⟨v, rfl, pl, ?_, ?_⟩⟩
  · simp only [St.app, hu, updH, List.foldl]; exact hH
  · have := put_env (dst := o.dst) (v := v) hn (by rw [ho]; exact hd) henv (fun _ _ => hv)
    simp only [St.app, hu, updH, List.foldl]
    exact ⟨this.2.1.trans hdf, this.1, this.2.2⟩
end

theorem ofTV {P : Program} {tv : TV} (hP : TVOk P tv) {t : TypeId} {ty : Ty} (h : tv t = some ty) : ∃ i d z, P.info? t = some i ∧ P.underlying t = some d ∧ i.size = ty.size ∧ i.bytes = ty.bytes ∧ i.zero = some z ∧ z.cells.size = ty.zero.length ∧
    (∀ (j : Nat) c, ty.zero[j]? = some c → ∃ v, z.cells[j]? = some v ∧ ZC c v) ∧ KOk P ty.k d ∧ isAggD d = ty.k.agg := (hP t ty h).out

/-! ### Arithmetic -/
theorem run_arith {P : Program} {w : World} (op : BinOp) (t : TypeId) (k k' : IntKind) (a b : Int) (hk : shiftOp op = true ∨ k = k') (hvc : (arithC op k a b).1) :
    ∃ v, (binOp op t (.int k a) (.int k' b)).run P w = .ok v w ∧ ∀ B H pl, CR B H pl w (arithC op k a b).2 v := by
  cases op
  case shl =>
    refine ⟨_, ?_, fun _ _ _ => rfl⟩
    have : ¬ b < 0 := by simpa [arithC] using hvc
    simp [binOp, Op.shift, this, arithC]
  case shr =>
    refine ⟨_, ?_, fun _ _ _ => rfl⟩
    have : ¬ b < 0 := by simpa [arithC] using hvc
    simp [binOp, Op.shift, this, arithC]
  all_goals
    obtain rfl : k = k' := by simpa [shiftOp] using hk
    refine ⟨_, ?_, fun _ _ _ => rfl⟩
    first
      | (have hb : b ≠ 0 := hvc; simp [binOp, Op.intDiv, hb, arithC]; done)
      | (simp [binOp, Op.intArith, Op.intBits, Op.intCmp, arithC, bitsI]; done)
      | (simp [binOp, Op.intArith, Op.intBits, Op.intCmp, arithC, bitsI]; rfl)

theorem run_guard {P : Program} {w : World} {op : BinOp} {t : TypeId} {x y : Operand} {a b : Value} (h : match a, b with | .nilIface, .nilIface => False | .agg _, .agg _ => False | _, _ => True) :
    (eqGuard op t x y a b).run P w = .ok () w := by
  unfold eqGuard
  cases op <;> simp <;> (cases a <;> cases b <;> simp_all)

theorem run_binC {P : Program} {tv : TV} (hP : TVOk P tv) {w : World} {B : Bs} {H : Heap} {pl : Pl} {op : BinOp} {t : TypeId} {x y : C} {u v : Value} {r : Prop × C}
    (h : binC tv op t x y = some r) (hvc : r.1) (hx : CR B H pl w x u) (hy : CR B H pl w y v) (X Y : Operand) :
    ∃ z, (do eqGuard op t X Y u v; binOp op t u v : Sem Value).run P w = .ok z w ∧ CR B H pl w r.2 z := by
  cases x <;> cases y <;> simp only [binC] at h <;> try (cases h; done)
  case int.int k a k' b =>
    split at h
    · rename_i hk
      injection h with h
      subst h
      obtain rfl : u = _ := hx
      obtain rfl : v = _ := hy
      obtain ⟨z, hz, hc⟩ := run_arith (P := P) (w := w) op t k k' a b hk hvc
      exact ⟨z, by rw [Sem.run_bind, run_guard (by simp)]; simpa using hz, hc B H pl⟩
    · cases h
  case bool.bool a b =>
    obtain rfl : u = _ := hx
    obtain rfl : v = _ := hy
    split at h
    · rename_i ht
      obtain ⟨i, d, z, h1, h2, h3, h4, h5, h6, h7, h8, h9⟩ := ofTV hP ht
      have h8 : d = .bool := h8
      subst h8
      have he : (Op.equal t (.bool a) (.bool b)).run P w = .ok (a == b) w := by
        unfold Op.equal Op.maxDepth Op.equalIn
        simp [run_underlying h2]
      cases op <;> simp only at h <;> try (cases h; done)
      all_goals
        injection h with h
        subst h
        refine ⟨_, ?_, rfl⟩
        rw [Sem.run_bind, run_guard (by simp)]
        simp [binOp, he]
    · cases h
  case str.str a b =>
    obtain rfl : u = _ := hx
    obtain rfl : v = _ := hy
    cases op <;> simp only [strC] at h <;> try (cases h; done)
    case add =>
      injection h with h
      subst h
      have hq : a.size + b.size ≤ 9223372036854775807 := hvc
      refine ⟨_, ?_, rfl⟩
      rw [Sem.run_bind, run_guard (by simp)]
      have hn : ¬ (((a.size + b.size : Nat) : Int) > IntKind.i64.max) := by
        have : IntKind.i64.max = 9223372036854775807 := by decide
        rw [this]; omega
      simp only [binOp, Op.stringOp, Result.andThen_ok]
      rw [if_neg hn]
      rfl
    all_goals
      injection h with h
      subst h
      refine ⟨_, ?_, rfl⟩
      rw [Sem.run_bind, run_guard (by simp)]
      simp [binOp, Op.stringOp]
end Go.AM
