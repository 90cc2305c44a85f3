/- The abstract machine: what it says of memory stays true while memory grows and is written where it may be. -/
import Derived.Test.YtaicenafkjbnoaaAmB
set_option linter.unusedVariables false
set_option linter.unusedSimpArgs false
set_option linter.unusedSectionVars false
namespace Go.AM

/-! ### How states evolve -/
structure Evo (B : Bs) (H : Heap) (pl : Pl) (w : World) (H' : Heap) (pl' : Pl) (w' : World) : Prop where
  obj : ∀ id o, getA id H = some o → ∃ o', getA id H' = some o' ∧ o.to pl pl' id o'
  zon : ∀ fr b, b < w.heap.size → ¬ zone B H pl fr b → ¬ zone B H' pl' fr b
  keep : ∀ b, b < w.heap.size → (∀ id o, getA id H = some o → o.live = true → pl.blk id ≠ some b) → w'.heap[b]? = w.heap[b]?
theorem Evo.mem {B : Bs} {H : Heap} {pl : Pl} {w : World} {H' : Heap} {pl' : Pl} {w' : World} (h : Evo B H pl w H' pl' w') (fr : Bool) (b : Nat) (hb : b < w.heap.size) (hz : ¬ zone B H pl fr b) : ¬ zone B H' pl' fr b ∧ w'.heap[b]? = w.heap[b]? :=
  ⟨h.zon fr b hb hz, h.keep b hb fun id o h1 h2 h3 => hz (.inl ⟨id, o, h1, h2, h3⟩)⟩
section
variable {B : Bs} {H : Heap} {pl : Pl} {w : World} {H' : Heap} {pl' : Pl} {w' : World}
theorem Evo.ptr (h : Evo B H pl w H' pl' w') {id ver j o : Nat} {v : Value} (hp : ptrR H pl id ver j o v) : ptrR H' pl' id ver j o v := by
  unfold ptrR at hp
  cases hg : getA id H with
  | none => rw [hg] at hp; exact hp.elim
  | some ob =>
    obtain ⟨ob', hg', hto⟩ := h.obj id ob hg
    rw [hg] at hp
    unfold ptrR
    rw [hg']
    rcases hto with hlt | hto
    · cases ob <;> cases ob' <;> simp only [Obj.ver] at hlt <;> dsimp only at hp ⊢ <;> first | exact ⟨by have := hp.1; omega, fun e => by have := hp.1; omega⟩ | exact ⟨by omega, fun e => by omega⟩ | (have := hp.1; omega) | omega
    · cases ob <;> cases ob' <;> dsimp only at hto hp ⊢ <;> try exact hto.elim
      · obtain ⟨rfl, hb⟩ := hto
        exact ⟨hp.1, fun e => ⟨(hp.2 e).1, by rw [hb]; exact (hp.2 e).2⟩⟩
      · obtain ⟨rfl, hb, _, he, _⟩ := hto
        refine ⟨hp.1, fun e => ?_⟩
        rw [hb, he]
        exact hp.2 e
      · subst hto; exact hp
theorem Evo.osl (h : Evo B H pl w H' pl' w') {id ver off len : Nat} {v : Value} (hp : oslR H pl id ver off len v) : oslR H' pl' id ver off len v := by
  unfold oslR at hp
  cases hg : getA id H with
  | none => rw [hg] at hp; exact hp.elim
  | some ob =>
    obtain ⟨ob', hg', hto⟩ := h.obj id ob hg
    rw [hg] at hp
    unfold oslR
    rw [hg']
    rcases hto with hlt | hto
    · cases ob <;> cases ob' <;> simp only [Obj.ver] at hlt <;> dsimp only at hp ⊢ <;> first | exact ⟨by have := hp.1; omega, fun e => by have := hp.1; omega⟩ | exact ⟨by omega, fun e => by omega⟩ | (have := hp.1; omega) | omega
    · cases ob <;> cases ob' <;> dsimp only at hto hp ⊢ <;> try exact hto.elim
      · obtain ⟨rfl, _⟩ := hto; exact hp
      · obtain ⟨rfl, hb, hc, he, hl⟩ := hto
        refine ⟨hp.1, fun e => ?_⟩
        obtain ⟨a, cap, hv, h1, h2, h3⟩ := hp.2 e
        refine ⟨a, cap, hv, by omega, h2, fun hcp => ?_⟩
        rw [hb, hc, he]
        exact h3 hcp
      · subst hto; exact hp
theorem Evo.reads (h : Evo B H pl w H' pl' w') {fr : Bool} {v : Value} {d : D} (hr : Reads (zone B H pl fr) w v d) : Reads (zone B H' pl' fr) w' v d :=
  hr.mono (h.mem fr)
theorem Evo.cr (h : Evo B H pl w H' pl' w') {c : C} {v : Value} (hc : CR B H pl w c v) : CR B H' pl' w' c v := by
  cases c with
  | dsl fr d => exact ⟨hc.1, h.reads hc.2⟩
  | dp fr ds =>
    obtain ⟨p, hv, hd⟩ := hc
    refine ⟨p, hv, fun o e ho => ?_⟩
    obtain ⟨u, hu, hz, hr⟩ := hd o e ho
    have hb := cell_lt hu
    rw [add_block] at hb
    have hm := h.mem fr _ hb hz
    exact ⟨u, (cell_same (w := w) (w' := w') (by rw [add_block]; exact hm.2)).trans hu, hm.1, h.reads hr⟩
  | osl id ver off len => exact ⟨hc.1, h.osl hc.2⟩
  | ptr id ver j o => exact ⟨hc.1, h.ptr hc.2⟩
  | fn f caps =>
    obtain ⟨cs, hv, hl, hcs⟩ := hc
    exact ⟨cs, hv, hl, fun i id ver hi => let ⟨u, hu, hp⟩ := hcs i id ver hi; ⟨u, hu, h.ptr hp⟩⟩
  | _ => exact hc
theorem Evo.vr (h : Evo B H pl w H' pl' w') {x : V} {v : Value} (hc : VR B H pl w x v) : VR B H' pl' w' x v := by
  cases x with
  | c c => exact h.cr hc
  | agg xs =>
    obtain ⟨cs, hv, hl, hcs⟩ := hc
    exact ⟨cs, hv, hl, fun i c hi => let ⟨u, hu, hp⟩ := hcs i c hi; ⟨u, hu, h.cr hp⟩⟩
theorem Evo.lvr (h : Evo B H pl w H' pl' w') {x : LV} {v : Value} (hc : LVR B H pl w x v) : LVR B H' pl' w' x v := by
  cases x with
  | v c => exact h.vr hc
  | tup xs =>
    obtain ⟨cs, hv, hl, hcs⟩ := hc
    exact ⟨cs, hv, hl, fun i c hi => let ⟨u, hu, hp⟩ := hcs i c hi; ⟨u, hu, h.vr hp⟩⟩
/-- An object that stays as it is, in a block that stays as it is. -/
theorem Evo.objR (h : Evo B H pl w H' pl' w') {id : Nat} {o : Obj} (hb : pl'.blk id = pl.blk id) (hc : pl'.cap id = pl.cap id)
    (hk : ∀ b, o.live = true → pl.blk id = some b → w'.heap[b]? = w.heap[b]?) (ho : ObjR B H pl w id o) : ObjR B H' pl' w' id o := by
  cases o with
  | box ver cs =>
    obtain ⟨b, vs, T, h1, h2, h3, h4⟩ := ho
    exact ⟨b, vs, T, hb.trans h1, (hk b rfl h1).trans h2, h3, fun i c hi => let ⟨u, hu, hp⟩ := h4 i c hi; ⟨u, hu, h.cr hp⟩⟩
  | arr ver fr d =>
    obtain ⟨es, xs, h1, h2, h3, h4, h5⟩ := ho
    refine ⟨es, xs, h1, h2, h3, by rw [hb]; exact h4, fun b hbb => ?_⟩
    rw [hb] at hbb
    obtain ⟨vs, T, g1, g2, g3, g4⟩ := h5 b hbb
    exact ⟨vs, T, (hk b rfl hbb).trans g1, by rw [hc]; exact g2, by rw [hc]; exact g3, fun j o e he => let ⟨u, hu, hr⟩ := g4 j o e he; ⟨u, hu, h.reads hr⟩⟩
  | dead v => trivial
end

theorem zone_false {B : Bs} {H : Heap} {pl : Pl} {b : Nat} (h : ¬ zone B H pl true b) : ¬ zone B H pl false b := fun h' => h (h'.elim .inl (fun h => .inr (h.elim (fun h => by simp at h) .inr)))

theorem HR.step {E : Ent} {H : Heap} {pl : Pl} {w : World} {H' : Heap} {pl' : Pl} {w' : World} (h : HR E H pl w)
    (hw : w'.os = w.os ∧ w'.tape = w.tape ∧ w'.output = w.output ∧ w.heap.size ≤ w'.heap.size) (hev : Evo E.b H pl w H' pl' w') (M : Nat → Prop)
    (hsame : ∀ id, ¬ M id → getA id H' = getA id H ∧ pl'.blk id = pl.blk id ∧ pl'.cap id = pl.cap id)
    (hkeep : ∀ id o b, ¬ M id → getA id H = some o → o.live = true → pl.blk id = some b → w'.heap[b]? = w.heap[b]?)
    (hM : ∀ id o', M id → getA id H' = some o' → ObjR E.b H' pl' w' id o' ∧
      (∀ oi, getA id E.hin = some oi → oi.to E.pl0 pl' id o') ∧
      ∀ b, o'.live = true → pl'.blk id = some b → b < w'.heap.size ∧ (w.heap.size ≤ b ∨ ∃ o, getA id H = some o ∧ o.live = true ∧ pl.blk id = some b))
    (hM2 : ∀ id id' o o' b, M id → M id' → getA id H' = some o → o.live = true → getA id' H' = some o' → o'.live = true → pl'.blk id = some b → pl'.blk id' = some b → id = id') :
    HR E H' pl' w' := by
  refine ⟨hw.1.trans h.os, hw.2.1.trans h.tape, hw.2.2.1.trans h.output, Nat.le_trans h.size hw.2.2.2, ?_, ?_, ?_, h.hX, h.hXl, h.lentid, ?_, ?_⟩
  · intro b hb hl
    refine (hev.keep b (Nat.lt_of_lt_of_le hb h.size) fun id o h1 h2 h3 => ?_).trans (h.frame b hb hl)
    rcases (h.blk id o b h1 h2 h3).2 with h4 | ⟨oi, h4, h5⟩
    · omega
    · exact hl id oi h4 h5
  · intro id o b h1 h2 h3
    by_cases hm : M id
    · obtain ⟨_, _, hx⟩ := hM id o hm h1
      obtain ⟨h4, h5⟩ := hx b h2 h3
      refine ⟨h4, ?_⟩
      rcases h5 with h5 | ⟨oo, h5, h6, h7⟩
      · exact .inl (Nat.le_trans h.size h5)
      · exact (h.blk id oo b h5 h6 h7).2
    · obtain ⟨e1, e2, _⟩ := hsame id hm
      rw [e1] at h1
      rw [e2] at h3
      have := h.blk id o b h1 h2 h3
      exact ⟨Nat.lt_of_lt_of_le this.1 hw.2.2.2, this.2⟩
  · intro id id' o o' b h1 h2 h3 h4 h5 h6
    have key : ∀ id o, getA id H' = some o → o.live = true → pl'.blk id = some b → (M id ∧ w.heap.size ≤ b) ∨ ∃ o, getA id H = some o ∧ o.live = true ∧ pl.blk id = some b := by
      intro id o h1 h2 h3
      by_cases hm : M id
      · rcases ((hM id o hm h1).2.2 b h2 h3).2 with hx | hx
        · exact .inl ⟨hm, hx⟩
        · exact .inr hx
      · obtain ⟨e1, e2, _⟩ := hsame id hm
        exact .inr ⟨o, e1 ▸ h1, h2, e2 ▸ h3⟩
    rcases key id o h1 h2 h5 with ⟨m1, k1⟩ | ⟨o1, a1, a2, a3⟩
    · rcases key id' o' h3 h4 h6 with ⟨m2, _⟩ | ⟨o2, b1, b2, b3⟩
      · exact hM2 id id' o o' b m1 m2 h1 h2 h3 h4 h5 h6
      · have := (h.blk id' o2 b b1 b2 b3).1
        omega
    · rcases key id' o' h3 h4 h6 with ⟨_, k2⟩ | ⟨o2, b1, b2, b3⟩
      · have := (h.blk id o1 b a1 a2 a3).1
        omega
      · exact h.inj id id' o1 o2 b a1 a2 b1 b2 a3 b3
  · intro id o oi h1 h2
    by_cases hm : M id
    · exact (hM id o hm h1).2.1 oi h2
    · obtain ⟨e1, e2, e3⟩ := hsame id hm
      refine Obj.to_trans (h.lent id o oi (e1 ▸ h1) h2) ?_
      have := o.to_refl pl id
      unfold Obj.to at *
      rw [e2, e3]
      exact this
  · intro id o h1
    by_cases hm : M id
    · exact (hM id o hm h1).1
    · obtain ⟨e1, e2, e3⟩ := hsame id hm
      rw [e1] at h1
      exact hev.objR e2 e3 (fun b hl hb => hkeep id o b hm h1 hl hb) (h.objs id o h1)

/-- Where only the count of draws has turned, or nothing. -/
theorem HR.still {E : Ent} {H : Heap} {pl : Pl} {w w' : World} (h : HR E H pl w) (hw : w'.os = w.os ∧ w'.tape = w.tape ∧ w'.output = w.output ∧ w'.heap = w.heap) : HR E H pl w' := by
  refine h.step ⟨hw.1, hw.2.1, hw.2.2.1, by rw [hw.2.2.2]; exact Nat.le_refl _⟩ ⟨fun id o h => ⟨o, h, o.to_refl pl id⟩, fun fr b _ hz => hz, fun b _ _ => by rw [hw.2.2.2]⟩ (fun _ => False) (fun id _ => ⟨rfl, rfl, rfl⟩) (fun id o b _ _ _ _ => by rw [hw.2.2.2]) (fun _ _ hf => hf.elim) (fun _ _ _ _ _ hf => hf.elim)
theorem evo_still {B : Bs} {H : Heap} {pl : Pl} {w w' : World} (hw : w'.heap = w.heap) : Evo B H pl w H pl w' :=
  ⟨fun id o h => ⟨o, h, o.to_refl pl id⟩, fun fr b _ hz => hz, fun b _ _ => by rw [hw]⟩

/-! ### Applying a step -/
def updH (l : List (Nat × Obj)) (H : Heap) : Heap := l.foldl (fun h p => setA p.1 p.2 h) H
def putE (dst : Option Tmp) (x : LV) (env : List (Nat × LV)) : List (Nat × LV) :=
  match dst with
  | some d => (d, x) :: env
  | none => env
def St.app (s : St) (dst : Option Tmp) (st : Step) : St := ⟨putE dst st.val s.env, updH st.upd s.heap⟩

theorem Rel.ev {E : Ent} {s : St} {a : Act} {w : World} {pl : Pl} (henv : ∀ t lv, getA t s.env = some lv → LVR E.b s.heap pl w lv (a.tmps.getD t undef)) (x : Operand) :
    LVR E.b s.heap pl w (s.ev x) (a.eval x) := by
  cases x with
  | tmp t =>
    simp only [St.ev, Act.eval]
    cases h : getA t s.env with
    | none => trivial
    | some lv => exact henv t lv h
  | const v =>
    simp only [St.ev, Act.eval, LVR, VR]
    unfold constC
    split <;> simp [CR]
  | func f => exact ⟨[], rfl, rfl, fun i id ver h => by simp at h⟩
  | global g => trivial
theorem lvr_one {B : Bs} {H : Heap} {pl : Pl} {w : World} {x : LV} {v : Value} (h : LVR B H pl w x v) : VR B H pl w x.one v := by
  cases x with
  | v x => exact h
  | tup xs => trivial
theorem vr_one {B : Bs} {H : Heap} {pl : Pl} {w : World} {x : V} {v : Value} (h : VR B H pl w x v) : CR B H pl w x.one v := by
  cases x with
  | c x => exact h
  | agg xs => trivial
theorem put_env {B : Bs} {n : Nat} {H : Heap} {pl : Pl} {w : World} {env : List (Nat × LV)} {a : Act} {dst : Option Tmp} {x : LV} {v : Value}
    (hn : a.tmps.size = n) (hd : ∀ d, dst = some d → d < n) (henv : ∀ t lv, getA t env = some lv → LVR B H pl w lv (a.tmps.getD t undef)) (hx : ∀ d, dst = some d → LVR B H pl w x v) :
    (a.put dst v).tmps.size = n ∧ (a.put dst v).defers = a.defers ∧ ∀ t lv, getA t (putE dst x env) = some lv → LVR B H pl w lv ((a.put dst v).tmps.getD t undef) := by
  cases dst with
  | none => exact ⟨hn, rfl, henv⟩
  | some d =>
    refine ⟨by simp [Act.put, hn], rfl, fun t lv h => ?_⟩
    simp only [putE, getA] at h
    split at h
    · rename_i e
      subst e
      injection h with h
      subst h
      have : (a.put (some d) v).tmps.getD d undef = v := by
        have := hd d rfl
        simp [Act.put, Array.getElem?_setIfInBounds, hn, this]
      rw [this]
      exact hx d rfl
    · rename_i e
      have : (a.put (some d) v).tmps.getD t undef = a.tmps.getD t undef := by
        simp [Act.put, Array.getElem?_setIfInBounds_ne e]
      rw [this]
      exact henv t lv h
end Go.AM
