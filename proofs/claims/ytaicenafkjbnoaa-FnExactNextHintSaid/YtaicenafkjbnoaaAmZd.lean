/- The abstract machine: results of which more is known; nil tests; arrays; structs stored in arrays; loops over a counter. -/
import Derived.Test.YtaicenafkjbnoaaAmZ
set_option linter.unusedVariables false
set_option linter.unusedSimpArgs false
set_option linter.unusedSectionVars false
namespace Go.AM

def LeLV (x x' : LV) : Prop := ∀ B H pl w v, LVR B H pl w x v → LVR B H pl w x' v
theorem LeLV.refl (x : LV) : LeLV x x := fun _ _ _ _ _ h => h
theorem LeLV.v {x x' : V} (h : LeV x x') : LeLV (.v x) (.v x') := fun B H pl w v hv => h B H pl w v hv
theorem LeLV.c {x x' : C} (h : LeC x x') : LeLV (.v (.c x)) (.v (.c x')) := LeLV.v (LeV.c h)
theorem LeLV.tup {l m : List V} (h : LeVs l m) : LeLV (.tup l) (.tup m) := by
  intro B H pl w v ⟨cs, hv, hl, hcs⟩
  obtain ⟨h1, h2⟩ := h.get
  refine ⟨cs, hv, hl.trans h1, fun i c hi => ?_⟩
  obtain ⟨c', g1, g2⟩ := h2 i c hi
  obtain ⟨u, hu, hr⟩ := hcs i c' g1
  exact ⟨u, hu, g2 _ _ _ _ _ hr⟩
/-- A contract's result told in weaker words. -/
theorem CallsA.res {P : Program} {f : FuncId} {args : List V} {hin : Heap} {post post' : LV → Heap → Prop} (h : CallsA P f args hin post) (hp : ∀ r ho, post r ho → ∃ r', LeLV r r' ∧ post' r' ho) :
    CallsA P f args hin post' := ⟨h.body, fun w pl X vs h1 h2 h3 =>
  (h.run w pl X vs h1 h2 h3).mono fun _ _ ⟨v, r, ho, pl', e, p, q, l⟩ =>
    let ⟨r', hle, hp'⟩ := hp _ _ p
    ⟨v, r', ho, pl', e, hp', q, hle _ _ _ _ _ l⟩⟩

/-! ### States in weaker words -/
theorem Weak.env {s : St} {env' : List (Nat × LV)} (h : ∀ t lv', getA t env' = some lv' → ∃ lv, getA t s.env = some lv ∧ LeLV lv lv') : Weak s ⟨env', s.heap⟩ := fun E n a w R => by
  obtain ⟨pl, hH, hdf, hn, henv⟩ := R
  exact ⟨pl, hH, hdf, hn, fun t lv ht => let ⟨x, h1, h2⟩ := h t lv ht; h2 _ _ _ _ _ (henv t x h1)⟩
theorem Weak.trans {s s' s'' : St} (h : Weak s s') (h' : Weak s' s'') : Weak s s'' := fun E n a w R => h' E n a w (h E n a w R)
theorem Weak.set {s : St} {t : Nat} {x x' : LV} (ht : getA t s.env = some x) (h : LeLV x x') : Weak s ⟨setA t x' s.env, s.heap⟩ :=
  Weak.env fun u lv hu => by
    rw [getA_setA] at hu
    split at hu
    · rename_i e
      subst e
      injection hu with hu
      subst hu
      exact ⟨x, ht, h⟩
    · exact ⟨lv, hu, LeLV.refl _⟩
/-- An empty array of the call's own that lies nowhere yet. -/
theorem Weak.ghost {s : St} (id : Nat) (d : D) {es : Nat} (hid : id < 8000) (hn : getA id s.heap = none) (hd : d.elems = some (es, [])) (hes : 0 < es) : Weak s ⟨s.env, (id, .arr 0 true d) :: s.heap⟩ := fun E n a w R => by
  obtain ⟨pl, hH, hdf, hn', henv⟩ := R
  have hget : ∀ j, getA j ((id, Obj.arr 0 true d) :: s.heap) = if id = j then some (.arr 0 true d) else getA j s.heap := fun j => rfl
  let pl' : Pl := ⟨fun j => if j = id then none else pl.blk j, fun j => if j = id then 0 else pl.cap j⟩
  have hpb : ∀ j, j ≠ id → pl'.blk j = pl.blk j ∧ pl'.cap j = pl.cap j := fun j h => ⟨if_neg h, if_neg h⟩
  have hev : Evo E.b s.heap pl w ((id, .arr 0 true d) :: s.heap) pl' w := by
    refine ⟨fun j o hj => ?_, fun fr b hb hz => ?_, fun b _ _ => rfl⟩
    · have hne : j ≠ id := fun e => by rw [e, hn] at hj; cases hj
      refine ⟨o, by rw [hget, if_neg (Ne.symm hne)]; exact hj, ?_⟩
      have := o.to_refl pl j
      unfold Obj.to at *
      rw [(hpb j hne).1, (hpb j hne).2]
      exact this
    · rintro (⟨j, o, h1, h2, h3⟩ | h1)
      · rw [hget] at h1
        split at h1
        · rename_i e
          have : pl'.blk j = none := if_pos e.symm
          rw [this] at h3
          cases h3
        · rename_i e
          rw [(hpb j (fun h => e h.symm)).1] at h3
          exact hz (.inl ⟨j, o, h1, h2, h3⟩)
      · exact hz (.inr h1)
  refine ⟨pl', hH.step ⟨rfl, rfl, rfl, Nat.le_refl _⟩ hev (fun j => j = id) (fun j hj => ⟨by rw [hget, if_neg (Ne.symm hj)], hpb j hj⟩) (fun _ _ _ _ _ _ _ => rfl) (fun j o hj ho => ?_) (fun j j' o o' b hj _ _ _ _ _ h5 _ => ?_), hdf, hn', fun t lv ht => hev.lvr (henv t lv ht)⟩
  · subst hj
    rw [hget, if_pos rfl] at ho
    injection ho with ho
    subst ho
    have hb : pl'.blk j = none := if_pos rfl
    refine ⟨⟨es, [], hd, hes, by simp, fun _ => rfl, fun b hbb => by rw [hb] at hbb; cases hbb⟩, fun oi hoi => ?_, fun b _ hbb => by rw [hb] at hbb; cases hbb⟩
    have := hH.lentid j oi hoi
    omega
  · have hb : pl'.blk j = none := if_pos hj
    rw [hb] at h5
    cases h5
theorem cr_nil_osl {B : Bs} {H : Heap} {pl : Pl} {w : World} {id ver : Nat} {fr : Bool} {d : D} {v : Value} (hg : getA id H = some (.arr ver fr d)) (h : CR B H pl w .nil v) : CR B H pl w (.osl id ver 0 0) v := by
  obtain rfl : v = .slice none 0 0 := h
  refine ⟨⟨_, _, _, rfl⟩, ?_⟩
  unfold oslR
  rw [hg]
  exact ⟨Nat.le_refl _, fun _ => ⟨none, 0, rfl, by omega, Nat.le_refl _, fun h => absurd h (by omega)⟩⟩
theorem Weak.nilT {s : St} {t id ver : Nat} {fr : Bool} {d : D} (ht : getA t s.env = some (.v (.c .nil))) (hg : getA id s.heap = some (.arr ver fr d)) : Weak s ⟨setA t (.v (.c (.osl id ver 0 0))) s.env, s.heap⟩ := fun E n a w R => by
  obtain ⟨pl, hH, hdf, hn, henv⟩ := R
  refine ⟨pl, hH, hdf, hn, fun u lv hu => ?_⟩
  rw [getA_setA] at hu
  split at hu
  · rename_i e
    subst e
    injection hu with hu
    subst hu
    have h0 : CR E.b s.heap pl w .nil (a.tmps.getD t undef) := henv t _ ht
    exact cr_nil_osl (B := E.b) (w := w) hg h0
  · exact henv u lv hu
/-- A variable's cells in weaker words. -/
theorem Weak.box {s : St} {b v : Nat} {cs cs' : List C} (hb : getA b s.heap = some (.box v cs)) (hl : cs'.length = cs.length)
    (h : ∀ (B : Bs) (pl : Pl) (w : World) (i : Nat) (c' : C), cs'[i]? = some c' → ∃ c, cs[i]? = some c ∧ ∀ u, CR B s.heap pl w c u → CR B s.heap pl w c' u) : Weak s ⟨s.env, setA b (.box v cs') s.heap⟩ := fun E n a w R => by
  obtain ⟨pl, hH, hdf, hn, henv⟩ := R
  have hget : ∀ j, getA j (setA b (.box v cs') s.heap) = if b = j then some (.box v cs') else getA j s.heap := fun j => getA_setA b j _ _
  have hev : Evo E.b s.heap pl w (setA b (.box v cs') s.heap) pl w := by
    refine ⟨fun j o hj => ?_, fun fr k hk hz => ?_, fun _ _ _ => rfl⟩
    · by_cases e : b = j
      · subst e
        rw [hb] at hj
        injection hj with hj
        subst hj
        refine ⟨.box v cs', by rw [hget, if_pos rfl], .inr ?_⟩
        exact ⟨rfl, rfl⟩
      · exact ⟨o, by rw [hget, if_neg e]; exact hj, o.to_refl pl j⟩
    · rintro (⟨j, o, h1, h2, h3⟩ | h1)
      · rw [hget] at h1
        split at h1
        · rename_i e
          subst e
          exact hz (.inl ⟨b, _, hb, rfl, h3⟩)
        · exact hz (.inl ⟨j, o, h1, h2, h3⟩)
      · exact hz (.inr h1)
  refine ⟨pl, hH.step ⟨rfl, rfl, rfl, Nat.le_refl _⟩ hev (fun j => j = b) (fun j hj => ⟨by rw [hget, if_neg (Ne.symm hj)], rfl, rfl⟩) (fun _ _ _ _ _ _ _ => rfl) (fun j o hj ho => ?_) (fun j j' o o' k hj hj' _ _ _ _ _ _ => by rw [hj, hj']), hdf, hn, fun t lv ht => hev.lvr (henv t lv ht)⟩
  subst hj
  rw [hget, if_pos rfl] at ho
  injection ho with ho
  subst ho
  obtain ⟨k, vs, T, h1, h2, h3, h4⟩ := hH.objs j _ hb
  refine ⟨⟨k, vs, T, h1, h2, by rw [hl]; exact h3, fun i c hi => ?_⟩, fun oi hoi => ?_, fun q _ hq => ⟨(hH.blk j _ q hb rfl hq).1, .inr ⟨_, hb, rfl, hq⟩⟩⟩
  · obtain ⟨c0, g1, g2⟩ := h E.b pl w i c hi
    obtain ⟨u, hu, hr⟩ := h4 i c0 g1
    exact ⟨u, hu, hev.cr (g2 u hr)⟩
  · have := hH.lent j _ oi hb hoi
    cases oi <;> simpa [Obj.to, Obj.ver] using this
theorem set_get {α : Type} {l : List α} {o i : Nat} {x y : α} (h : (l.set o x)[i]? = some y) : (i = o ∧ y = x ∧ i < l.length) ∨ l[i]? = some y := by
  rw [List.getElem?_set] at h
  split at h
  · rename_i e
    split at h
    · injection h with h
      exact .inl ⟨e.symm, h.symm, by omega⟩
    · cases h
  · exact .inr h
theorem Weak.nilB {s : St} {b v o id ver : Nat} {cs : List C} {fr : Bool} {d : D} (hb : getA b s.heap = some (.box v cs)) (hc : cs[o]? = some .nil) (hg : getA id s.heap = some (.arr ver fr d)) : Weak s ⟨s.env, setA b (.box v (cs.set o (.osl id ver 0 0))) s.heap⟩ :=
  Weak.box hb (by simp) fun B pl w i c' hi => by
    rcases set_get hi with ⟨rfl, rfl, _⟩ | hi
    · exact ⟨_, hc, fun u hu => cr_nil_osl hg hu⟩
    · exact ⟨c', hi, fun _ h => h⟩
theorem Weak.leB {s : St} {b v o : Nat} {cs : List C} {c c' : C} (hb : getA b s.heap = some (.box v cs)) (hc : cs[o]? = some c) (hle : LeC c c') : Weak s ⟨s.env, setA b (.box v (cs.set o c')) s.heap⟩ :=
  Weak.box hb (by simp) fun B pl w i c'' hi => by
    rcases set_get hi with ⟨rfl, rfl, _⟩ | hi
    · exact ⟨_, hc, fun u hu => hle _ _ _ _ _ hu⟩
    · exact ⟨c'', hi, fun _ h => h⟩
section
variable {P : Program} {n : Nat} {s : St} {Q : Exit → St → Prop} {c : Code} {ops : Array Oper} {l : List (Nat × Oper)} {K : St → Prop}
theorem WP.weaker {s0 : St} (hs : Weak s s0) (h : WP P n c Q s0) : WP P n c Q s := h.weak fun E a w R => hs E n a w R
def putAll (u : List (Nat × LV)) (env : List (Nat × LV)) : List (Nat × LV) := u.foldl (fun e p => setA p.1 p.2 e) env
/-- A loop over a counter: what a round turns of the state. -/
theorem WP.loopU {env : List (Nat × LV)} {H : Heap} (N : Nat) (u : Nat → List (Nat × LV)) (o : Nat → List (Nat × Obj)) (I : Nat → Prop) {env' : Nat → List (Nat × LV)} {H' : Nat → Heap}
    (he : ∀ k, putAll (u k) env = env' k) (hh : ∀ k, updH (o k) H = H' k) (hI : I 0) (hs : env' 0 = env) (hs' : H' 0 = H)
    (round : ∀ k, k ≤ N → I k → WP P n c (ThenQ (fun s' => k < N ∧ I (k + 1) ∧ s' = ⟨env' (k + 1), H' (k + 1)⟩) Q) ⟨env' k, H' k⟩) : WP P n (.loop c) Q ⟨env, H⟩ := by
  refine WP.loop (fun i s => ∃ k, i = N - k ∧ k ≤ N ∧ I k ∧ s = ⟨env' k, H' k⟩) N ⟨0, by omega, by omega, hI, by rw [hs, hs']⟩ ?_
  rintro _ _ ⟨k, rfl, hk, hik, rfl⟩
  refine (round k hk hik).mono fun e s' h => ?_
  cases e <;> try exact h
  obtain ⟨h1, h2, h3⟩ := h
  exact ⟨N - (k + 1), by omega, k + 1, rfl, by omega, h2, h3⟩
end

theorem run_nilTest {P : Program} {tv : TV} (hP : TVOk P tv) {w : World} {t : TypeId} {e z b : Nat} {zs : List C} (ht : tv t = some ⟨.slice e, z, b, zs⟩) (a : Option Addr) (n c : Nat) (X Y : Operand) :
    (do eqGuard .eql t X Y (.slice a n c) (.slice none 0 0); binOp .eql t (.slice a n c) (.slice none 0 0) : Sem Value).run P w = .ok (.bool a.isNone) w := by
  obtain ⟨i, d, z, h1, h2, h3, h4, h5, h6, h7, h8, h9⟩ := ofTV hP ht
  have h8 : d = .slice e := h8
  subst h8
  have he : (Op.equal t (.slice a n c) (.slice none 0 0)).run P w = .ok a.isNone w := by
    unfold Op.equal Op.maxDepth Op.equalIn
    cases a <;> simp [run_underlying h2]
  rw [Sem.run_bind, run_guard (by simp)]
  simp [binOp, he]
section
variable {P : Program} {tv : TV} {ops : Array Oper} {n : Nat} {s : St} {K : St → Prop} {l r : List (Nat × Oper)} {i : Nat} {o : Oper}
theorem WN.choose (hP : Prog P tv) (hg : guardE ops s.env o = some true) (st : Bool → Step) (C : Bool → Prop)
    (hs : ∀ E a w, Rel E n s a w → (∀ d, o.dst = some d → d < n) → ∃ b, C b ∧ Sim P E n s a w o (st b)) (h : ∀ b, C b → WN P n ops r K (outSt s o.dst (some (st b).val) (st b).upd)) : WN P n ops ((i, o) :: r) K s := by
  intro hb hl E a w R
  have hb' := hb
  simp only [regB, Bool.and_eq_true, decide_eq_true_eq] at hb'
  obtain ⟨⟨h9, hd⟩, _⟩ := hb'
  have ho := hl (i, o) (by simp)
  rw [List.map_cons, wpOps_cons]
  unfold wpOp
  simp only [ho]
  have hbo := R.bools
  have hud := R.undefs
  rw [wanted_of hbo hud hg, if_pos rfl]
  left
  obtain ⟨b, hc, hsim⟩ := hs E a w R (fun d hd' => dstB_get hd i o d ho hd')
  refine Oper.wp_mono (fun a' w' h' => ?_) (hsim.wp _)
  exact h b hc hb (fun p hp => hl p (by simp [hp])) E a' w' h'
theorem WN.nilTest (hP : Prog P tv) {t t' : TypeId} {x : Operand} {fr : Bool} {d : D} {dst ty : Nat} {pos : String} {aft : Array Edge} {g : Option (Nat × Bool)} {e z b : Nat} {zs : List C}
    (hg : guardE ops s.env ⟨some dst, .binOp .eql t x (.const (.slice none 0 0)) t', ty, pos, aft, g⟩ = some true) (ht : tv t = some ⟨.slice e, z, b, zs⟩) (hx : s.evC x = .dsl fr d)
    (h : ∀ b, (b = true → d.len = 0) → WN P n ops r K ⟨(dst, .v (.c (.bool b))) :: s.env, s.heap⟩) : WN P n ops ((i, ⟨some dst, .binOp .eql t x (.const (.slice none 0 0)) t', ty, pos, aft, g⟩) :: r) K s := by
  refine WN.choose hP hg (fun b => ⟨True, .v (.c (.bool b)), [], []⟩) (fun b => b = true → d.len = 0) (fun E a w R hd => ?_) h
  obtain ⟨pl, hH, hdf, hn, henv⟩ := R
  have hv := ev_c henv x
  rw [hx] at hv
  obtain ⟨hrow, hr⟩ := hv
  generalize hq : a.eval x = v at hr
  cases hr with
  | int k m => simp [D.isRow] at hrow
  | bool q => simp [D.isRow] at hrow
  | str q => simp [D.isRow] at hrow
  | slice ad m c d es xs he hm hc hes0 hes ad' f ha hcell hrr =>
    refine ⟨ad.isNone, fun hnone => ?_, sim_val (v := .bool ad.isNone) hH hdf hn henv hd rfl rfl ?_ rfl⟩
    · rw [elems_len he, ← hm]
      rcases Nat.eq_zero_or_pos m with h0 | h0
      · exact h0
      · rw [(ha h0).1] at hnone
        cases hnone
    · have := run_nilTest hP.tv ht (w := w) ad m c x (.const (.slice none 0 0))
      have he : a.eval (.const (.slice none 0 0)) = .slice none 0 0 := rfl
      simp only [execOp, hq, he]
      rw [Sem.run_bind, this]
      rfl
end

attribute [simp] Obj.live Obj.ver
@[simp] theorem allInts_replicate (k : IntKind) (n : Nat) (x : Int) : allInts k (List.replicate n [D.int k x]) = some (List.replicate n x) := by
  induction n with
  | zero => rfl
  | succ n ih => simp [List.replicate_succ, allInts, ih]
@[simp] theorem allBools_replicate (n : Nat) (x : Bool) : allBools (List.replicate n [D.bool x]) = some (List.replicate n x) := by
  induction n with
  | zero => rfl
  | succ n ih => simp [List.replicate_succ, allBools, ih]
@[simp] theorem take_snoc_self {α : Type} (l : List α) (x : α) : (l ++ [x]).take (l.length + 1) = l ++ [x] := List.take_of_length_le (by simp)
section
variable {P : Program} {tv : TV} {ops : Array Oper} {n : Nat} {s : St} {K : St → Prop} {l r : List (Nat × Oper)} {i : Nat} {o : Oper}
theorem WN.zeroArr (hP : Prog P tv) {t m e dst ty : Nat} {ta : Ty} {pos : String} {aft : Array Edge} {g : Option (Nat × Bool)}
    (hg : guardE ops s.env ⟨some dst, .build t #[], ty, pos, aft, g⟩ = some true) (ht : tv t = some ta) (hk : ta.k = .array m e) (he : ∃ te, tv e = some te)
    (h : WN P n ops r K ⟨(dst, .v (.agg ta.zero)) :: s.env, s.heap⟩) : WN P n ops ((i, ⟨some dst, .build t #[], ty, pos, aft, g⟩) :: r) K s := by
  obtain ⟨tk, size, b, zr⟩ := ta
  have hk : tk = .array m e := hk
  subst hk
  refine WN.choose hP hg (fun _ => ⟨True, .v (.agg zr), [], []⟩) (fun _ => True) (fun E a w R hd => ⟨true, trivial, ?_⟩) (fun _ _ => h)
  obtain ⟨pl, hH, hdf, hn, henv⟩ := R
  obtain ⟨i1, dd1, z1, g1, g2, g3, g4, g5, g6, g7, g8, g9⟩ := ofTV hP.tv ht
  obtain ⟨te, hte⟩ := he
  obtain ⟨i2, dd2, z2, k1, k2, k3, k4, k5, k6, k7, k8, k9⟩ := ofTV hP.tv hte
  have g8 : dd1 = .array m e := g8
  subst g8
  have hz : ∀ (i : Nat) c, zr[i]? = some c → ∃ u, z1.cells[i]? = some u ∧ CR E.b s.heap pl w c u := fun i c hi => let ⟨v, hv, hzc⟩ := g7 i c hi; ⟨v, hv, zc_cr hzc⟩
  refine sim_val (v := .agg z1.cells) hH hdf hn henv hd rfl rfl ?_ ⟨z1.cells, rfl, g6, hz⟩
  have hb : P.built t [] = some z1.cells := by
    unfold Program.built
    simp only [g1, g2, g5, k1]
    rfl
  have := run_build w t #[] z1.cells (by simpa using hb)
  simp [execOp, this]
theorem allB_map : ∀ {cs : List C} {l : List Bool}, allB cs = some l → cs = l.map C.bool
  | [], l, h => by simp [allB] at h; subst h; rfl
  | .bool b :: r, l, h => by
    simp only [allB, Option.map_eq_some_iff] at h
    obtain ⟨l', h1, rfl⟩ := h
    rw [allB_map h1]
    rfl
  | .int _ _ :: _, _, h | .str _ :: _, _, h | .nil :: _, _, h | .dsl _ _ :: _, _, h | .dp _ _ :: _, _, h | .osl _ _ _ _ :: _, _, h | .ptr _ _ _ _ :: _, _, h | .fn _ _ :: _, _, h | .bad :: _, _, h => by simp [allB] at h
theorem WN.storeArr (hP : Prog P tv) {t ty id ver : Nat} {pos : String} {aft : Array Edge} {g : Option (Nat × Bool)} {p x : Operand} {fr : Bool} {l l' : List Bool} {te : Ty} {cs : List C}
    (hg : guardE ops s.env ⟨none, .store t p x, ty, pos, aft, g⟩ = some true) (ht : tv t = some te) (hp : s.evC p = .ptr id ver 0 0) (ho : getA id s.heap = some (.arr ver fr (.bools l)))
    (hx : s.evV x = .agg cs) (hcs : allB cs = some l') (hl : l'.length = l.length ∧ l'.length = te.size)
    (h : WN P n ops r K ⟨s.env, setA id (.arr ver fr (.bools l')) s.heap⟩) : WN P n ops ((i, ⟨none, .store t p x, ty, pos, aft, g⟩) :: r) K s := by
  refine WN.choose hP hg (fun _ => ⟨True, .v (.c .bad), [(id, .arr ver fr (.bools l'))], []⟩) (fun _ => True) (fun E a w R hd => ⟨true, trivial, ?_⟩) (fun _ _ => h)
  obtain ⟨pl, hH, hdf, hn, henv⟩ := R
  have hp' := ev_c henv p
  have hx' := ev_v henv x
  obtain ⟨i, d, z, h1, h2, h3, h4, h5, h6, h7, h8, h9⟩ := ofTV hP.tv ht
  rw [hp] at hp'
  obtain ⟨_, hp'⟩ := hp'
  unfold ptrR at hp'
  rw [ho] at hp'
  obtain ⟨b, hb, hpv⟩ := hp'.2 rfl
  obtain ⟨es, xs, q1, q2, q3, q4, q5⟩ := hH.objs id _ ho
  simp only [D.elems, Option.some.injEq, Prod.mk.injEq] at q1
  obtain ⟨rfl, rfl⟩ := q1
  obtain ⟨vs, T, k1, k2, k3, k4⟩ := q5 b hb
  rw [hx] at hx'
  have hcm := allB_map hcs
  have hok : okV (.agg cs) = true := rfl
  have hc := vr_cells hx' hok
  simp only [V.cells] at hc
  have hclen : cs.length = l'.length := by rw [hcm]; simp
  have hcell : ∀ (k : Nat) (q : Bool), l'[k]? = some q → (a.eval x).cells[k]? = some (.bool q) := fun k q hk => by
    obtain ⟨u, hu, hr⟩ := hc.2 k (.bool q) (by rw [hcm]; simp [hk])
    obtain rfl : u = _ := hr
    exact hu
  have hone : ∀ u ∈ (a.eval x).cells.toList, u.oneCell' = true := fun u hu => by
    obtain ⟨k, hk⟩ := List.getElem?_of_mem hu
    have hlt : k < l'.length := by
      have := (List.getElem?_eq_some_iff.1 hk).1
      simp only [Array.length_toList] at this
      omega
    have := hcell k _ (List.getElem?_eq_getElem hlt)
    have e : u = .bool l'[k] := by simpa [this] using hk.symm
    rw [e]
    rfl
  have hcap : l'.length ≤ vs.size := by rw [k2]; simp at k3; omega
  have hr := run_store_at (P := P) (w := w) (t := t) h1 k1 (k := 0) (v := a.eval x) (by rw [hc.1, h3]; omega) (by rw [hc.1]; omega) hone
  have hS := HR.set hH (id := id) (o' := .arr ver fr (.bools l')) (w' := w.setRow b (vs.toList.take 0 ++ (a.eval x).cells.toList ++ vs.toList.drop (0 + (a.eval x).cells.size)).toArray) ho rfl rfl (Nat.le_refl _)
    (.inr ⟨rfl, rfl, rfl, rfl, by simp [D.len]; omega⟩) ⟨rfl, rfl, rfl, by simp⟩ (fun k hk => setRow_other w b k _ (fun e => hk (e ▸ hb)))
    (fun hev => ⟨1, _, rfl, by omega, fun y hy => by simp at hy; rcases hy with ⟨_, rfl⟩ | ⟨_, rfl⟩ <;> rfl, (fun hnone => absurd hnone (by rw [hb]; simp)), fun b' hb' => by
      rw [hb] at hb'
      injection hb' with hb'
      subst hb'
      refine ⟨_, T, setRow_heap w b vs _ T (0, 0) k1, ?_, ?_, fun j o e he => ?_⟩
      · simp only [List.size_toArray, List.length_append, List.length_take, List.length_drop, Array.length_toList]
        have := hc.1
        omega
      · simp at k3 ⊢; omega
      · simp only [List.getElem?_map] at he
        cases hq : l'[j]? with
        | none => simp [hq] at he
        | some q =>
          simp only [hq, Option.map_some, Option.bind_some] at he
          cases o with
          | zero =>
            simp at he
            subst he
            refine ⟨.bool q, ?_, .bool q⟩
            have hj := (List.getElem?_eq_some_iff.1 hq).1
            have h2 := hcell j q hq
            simp only [List.take_zero, List.nil_append, Nat.mul_one, Nat.add_zero, List.getElem?_toArray]
            rw [List.getElem?_append_left (by simp; omega)]
            simpa using h2
          | succ o => simp at he⟩)
  refine sim_skip (st := ⟨True, .v (.c .bad), [(id, .arr ver fr (.bools l'))], []⟩) hdf hn henv hd rfl ?_ hS.1 hS.2 rfl
  have hpv' : a.eval p = .pointer (some ⟨b, 0, none⟩) := by simpa using hpv
  simp [execOp, Instr.storeAt, Instr.sureAddr, hpv', hr]
end
section
variable {P : Program} {n : Nat} {Q : Exit → St → Prop} {c : Code}
/-- A loop over a counter, where a round finds some more. -/
theorem WP.loopX {α : Type} {env : List (Nat × LV)} {H : Heap} (N : Nat) (u : Nat → α → List (Nat × LV)) (o : Nat → α → List (Nat × Obj)) (I : Nat → α → Prop) (a0 : α) {env' : Nat → α → List (Nat × LV)} {H' : Nat → α → Heap}
    (he : ∀ k a, putAll (u k a) env = env' k a) (hh : ∀ k a, updH (o k a) H = H' k a) (hI : I 0 a0) (hs : env' 0 a0 = env) (hs' : H' 0 a0 = H)
    (round : ∀ k a, k ≤ N → I k a → WP P n c (ThenQ (fun s' => k < N ∧ ∃ a', I (k + 1) a' ∧ s' = ⟨env' (k + 1) a', H' (k + 1) a'⟩) Q) ⟨env' k a, H' k a⟩) : WP P n (.loop c) Q ⟨env, H⟩ := by
  refine WP.loop (fun i s => ∃ k a, i = N - k ∧ k ≤ N ∧ I k a ∧ s = ⟨env' k a, H' k a⟩) N ⟨0, a0, by omega, by omega, hI, by rw [hs, hs']⟩ ?_
  rintro _ _ ⟨k, a, rfl, hk, hik, rfl⟩
  refine (round k a hk hik).mono fun e s' h => ?_
  cases e <;> try exact h
  obtain ⟨h1, a', h2, h3⟩ := h
  exact ⟨N - (k + 1), by omega, k + 1, a', rfl, by omega, h2, h3⟩
end

section
variable {P : Program} {tv : TV} {ops : Array Oper} {n : Nat} {s : St} {K : St → Prop} {l r : List (Nat × Oper)} {i : Nat} {o : Oper}
theorem frzDs_bad {H : Heap} : ∀ {cs : List C} {ds : List D} {f : Bool} {ks : List Nat}, frzDs H cs = some (ds, f, ks) → cs.all noBad = true
  | [], _, _, _, _ => rfl
  | c :: r, ds, f, ks, h => by
    simp only [frzDs] at h
    split at h
    · rename_i h1 h2
      simp only [List.all_cons, Bool.and_eq_true]
      refine ⟨?_, frzDs_bad h2⟩
      cases c <;> simp [frzD] at h1 <;> rfl
    · cases h
theorem WN.storeRec (hP : Prog P tv) {t ty id ver j es : Nat} {pos : String} {aft : Array Edge} {g : Option (Nat × Bool)} {p x : Operand} {fr f : Bool} {xs : List (List D)} {te : Ty} {cs : List C} {ds : List D}
    (hg : guardE ops s.env ⟨none, .store t p x, ty, pos, aft, g⟩ = some true) (ht : tv t = some te) (hp : s.evC p = .ptr id ver j 0) (ho : getA id s.heap = some (.arr ver fr (.recs es xs)))
    (hx : s.evV x = .agg cs) (hcs : frzDs s.heap cs = some (ds, f, [])) (hl : cs.length = es ∧ cs.length = te.size) (hj : j < xs.length)
    (h : WN P n ops r K ⟨s.env, setA id (.arr ver (fr && f) (.recs es (xs.set j ds))) s.heap⟩) : WN P n ops ((i, ⟨none, .store t p x, ty, pos, aft, g⟩) :: r) K s := by
  refine WN.choose hP hg (fun _ => ⟨True, .v (.c .bad), [(id, .arr ver (fr && f) (.recs es (xs.set j ds)))], []⟩) (fun _ => True) (fun E a w R hd => ⟨true, trivial, ?_⟩) (fun _ _ => h)
  obtain ⟨pl, hH, hdf, hn, henv⟩ := R
  have hp' := ev_c henv p
  have hx' := ev_v henv x
  obtain ⟨i, d, z, h1, h2, h3, h4, h5, h6, h7, h8, h9⟩ := ofTV hP.tv ht
  rw [hp] at hp'
  obtain ⟨_, hp'⟩ := hp'
  unfold ptrR at hp'
  rw [ho] at hp'
  obtain ⟨b, hb, hpv⟩ := hp'.2 rfl
  obtain ⟨es', xs', q1, q2, q3, q4, q5⟩ := hH.objs id _ ho
  simp only [D.elems, Option.some.injEq, Prod.mk.injEq] at q1
  obtain ⟨rfl, rfl⟩ := q1
  obtain ⟨vs, T, k1, k2, k3, k4⟩ := q5 b hb
  rw [hx] at hx'
  have hc := vr_cells hx' (rfl : okV (.agg cs) = true)
  simp only [V.cells] at hc
  have hnb := frzDs_bad hcs
  obtain ⟨hdl, hdr⟩ := frzDs_reads hH (H' := s.heap) (ks' := []) ⟨fun _ _ => rfl, fun _ h => by cases h⟩ hcs (fun k hk => hk)
  have hone : ∀ u ∈ (a.eval x).cells.toList, u.oneCell' = true := fun u hu => by
    obtain ⟨k, hk⟩ := List.getElem?_of_mem hu
    have hlt : k < cs.length := by
      have := (List.getElem?_eq_some_iff.1 hk).1
      simp only [Array.length_toList] at this
      omega
    obtain ⟨u', hu', hr⟩ := hc.2 k _ (List.getElem?_eq_getElem hlt)
    have : u = u' := by simpa [hu'] using hk.symm
    rw [this]
    exact (cr_one hr (List.all_eq_true.1 hnb _ (List.getElem_mem hlt))).1
  have hcap : j * es + es ≤ vs.size := by
    rw [k2]
    calc j * es + es = (j + 1) * es := by rw [Nat.add_mul]; omega
      _ ≤ pl.cap id * es := Nat.mul_le_mul_right _ (by omega)
  have hcsz : (a.eval x).cells.size = es := by rw [hc.1]; exact hl.1
  have hr := run_store_at (P := P) (w := w) (t := t) h1 k1 (k := j * es) (v := a.eval x) (by rw [hc.1, h3]; exact hl.2) (by rw [hcsz]; exact hcap) hone
  rw [hcsz] at hr
  have hS := HR.set hH (id := id) (o' := .arr ver (fr && f) (.recs es (xs.set j ds))) (w' := w.setRow b (vs.toList.take (j * es) ++ (a.eval x).cells.toList ++ vs.toList.drop (j * es + es)).toArray) ho rfl rfl (Nat.le_refl _)
    (.inr ⟨rfl, rfl, rfl, rfl, by simp [D.len]⟩) ⟨rfl, rfl, rfl, by simp⟩ (fun k hk => setRow_other w b k _ (fun e => hk (e ▸ hb)))
    (fun hev => ⟨es, _, rfl, q2, fun y hy => by
        rcases List.mem_or_eq_of_mem_set hy with hy | rfl
        · exact q3 y hy
        · rw [hdl]; exact hl.1, (fun hnone => absurd hnone (by rw [hb]; simp)), fun b' hb' => by
      rw [hb] at hb'
      injection hb' with hb'
      subst hb'
      refine ⟨_, T, setRow_heap w b vs _ T (0, 0) k1, ?_, by simpa using k3, fun j' o' e' he' => ?_⟩
      · rw [← k2]
        simp only [List.size_toArray, List.length_append, List.length_take, List.length_drop, Array.length_toList]
        omega
      · simp only [List.getElem?_toArray]
        have hlen2 : (a.eval x).cells.toList.length = es := by simpa using hcsz
        have hrow := row_get vs.toList (a.eval x).cells.toList (j * es) (j' * es + o') (by simp; omega)
        rw [hlen2] at hrow
        rw [hrow]
        rw [List.getElem?_set] at he'
        by_cases hjj : j = j'
        · subst hjj
          rw [if_pos rfl, if_pos hj] at he'
          simp only [Option.bind_some] at he'
          obtain ⟨c, hcc, hcr⟩ := hdr o' e' he'
          obtain ⟨u, hu, hr⟩ := hc.2 o' c hcc
          have ho' : o' < es := by have := (List.getElem?_eq_some_iff.1 hcc).1; omega
          rw [if_pos ⟨by omega, by omega⟩]
          exact ⟨u, by simpa [show j * es + o' - j * es = o' by omega] using hu, (hev.reads (hcr u hr)).mono fun b _ hz => ⟨zone_sub' hz fr, rfl⟩⟩
        · rw [if_neg hjj] at he'
          have ho' : o' < es := by
            cases hxj : xs[j']? with
            | none => rw [hxj] at he'; cases he'
            | some y =>
              rw [hxj] at he'
              have := q3 y (List.mem_of_getElem? hxj)
              have := (List.getElem?_eq_some_iff.1 he').1
              omega
          have hne : ¬ (j * es ≤ j' * es + o' ∧ j' * es + o' < j * es + es) := by
            intro ⟨g1, g2⟩
            have e1 : (j' * es + o') / es = j' := by rw [Nat.mul_comm, Nat.mul_add_div q2, Nat.div_eq_of_lt ho']; omega
            have e2 : (j' * es + o') / es = j := by
              obtain ⟨tt, htt, hlt⟩ : ∃ tt, j' * es + o' = j * es + tt ∧ tt < es := ⟨j' * es + o' - j * es, by omega, by omega⟩
              rw [htt, Nat.mul_comm, Nat.mul_add_div q2, Nat.div_eq_of_lt hlt]
              omega
            exact hjj (e2.symm.trans e1)
          rw [if_neg hne]
          obtain ⟨u', hu', hr'⟩ := k4 j' o' e' he'
          exact ⟨u', by simpa using hu', (hev.reads hr').mono fun b _ hz => ⟨zone_sub hz f, rfl⟩⟩⟩)
  refine sim_skip (st := ⟨True, .v (.c .bad), [(id, .arr ver (fr && f) (.recs es (xs.set j ds)))], []⟩) hdf hn henv hd rfl ?_ hS.1 hS.2 rfl
  have hpv' : a.eval p = .pointer (some ⟨b, j * es, none⟩) := by simpa [D.es] using hpv
  simp [execOp, Instr.storeAt, Instr.sureAddr, hpv', hr]
end
end Go.AM
