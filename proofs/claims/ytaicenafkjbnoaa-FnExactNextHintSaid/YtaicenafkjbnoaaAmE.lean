/- The abstract machine: data, and memory that is made, written and given up. -/
import Derived.Test.YtaicenafkjbnoaaAmD
set_option linter.unusedVariables false
set_option linter.unusedSimpArgs false
set_option linter.unusedSectionVars false
namespace Go.AM

/-! ### Data -/
theorem elems_es {d : D} {es : Nat} {xs : List (List D)} (h : d.elems = some (es, xs)) : d.es = es := by
  cases d <;> simp [D.elems] at h <;> simp [D.es, h]
theorem elems_len {d : D} {es : Nat} {xs : List (List D)} (h : d.elems = some (es, xs)) : d.len = xs.length := by
  cases d <;> simp [D.elems] at h <;> simp [D.len, ← h.2]
theorem elems_row {d : D} {es : Nat} {xs : List (List D)} (h : d.elems = some (es, xs)) : d.isRow = true := by
  cases d <;> simp [D.elems] at h <;> rfl
theorem row_elems {d : D} (h : d.isRow = true) : ∃ xs, d.elems = some (d.es, xs) := by
  cases d <;> first | exact ⟨_, rfl⟩ | (simp [D.isRow] at h)
theorem elems_at {d : D} {es : Nat} {xs : List (List D)} (h : d.elems = some (es, xs)) {j : Nat} (hj : j < xs.length) : xs[j]? = some (d.at_ j) := by
  cases d <;> simp only [D.elems, Option.some.injEq, Prod.mk.injEq, reduceCtorEq] at h
  all_goals
    obtain ⟨rfl, rfl⟩ := h
    try simp only [List.length_map] at hj
    simp [D.at_, hj, List.getD]
theorem elems_cut {d : D} {es : Nat} {xs : List (List D)} (h : d.elems = some (es, xs)) (i n : Nat) : (d.cut i n).elems = some (es, (xs.drop i).take n) := by
  cases d <;> simp only [D.elems, Option.some.injEq, Prod.mk.injEq, reduceCtorEq] at h
  all_goals
    obtain ⟨rfl, rfl⟩ := h
    simp [D.cut, D.elems, List.map_take, List.map_drop]
theorem elems_app {d e d' : D} {es es' : Nat} {xs ys : List (List D)} (h : d.elems = some (es, xs)) (h2 : e.elems = some (es', ys)) (ha : d.app e = some d') : es = es' ∧ d'.elems = some (es, xs ++ ys) := by
  cases d <;> cases e <;> simp only [D.app] at ha <;> try (cases ha; done)
  all_goals
    simp only [D.elems, Option.some.injEq, Prod.mk.injEq] at h h2
    obtain ⟨rfl, rfl⟩ := h
    obtain ⟨rfl, rfl⟩ := h2
  · split at ha
    · rename_i hk
      subst hk
      injection ha with ha; subst ha
      simp [D.elems]
    · cases ha
  · injection ha with ha; subst ha
    simp [D.elems]
  · split at ha
    · rename_i hk
      subst hk
      injection ha with ha; subst ha
      simp [D.elems]
    · cases ha
theorem elems_set {d e d' : D} {es : Nat} {xs : List (List D)} (h : d.elems = some (es, xs)) {j o : Nat} (hj : j < xs.length) (ho : o < (d.at_ j).length) (ha : d.setAt j o e = some d') :
    d'.elems = some (es, xs.set j ((d.at_ j).set o e)) := by
  cases d <;> simp only [D.elems, Option.some.injEq, Prod.mk.injEq, reduceCtorEq] at h
  · obtain ⟨rfl, rfl⟩ := h
    cases e <;> simp only [D.setAt] at ha <;> try (cases ha; done)
    split at ha
    · rename_i hk
      subst hk
      injection ha with ha; subst ha
      simp only [D.at_, List.length_cons, List.length_nil] at ho
      obtain rfl : o = 0 := by omega
      simp [D.elems, D.at_, List.map_set]
    · cases ha
  · obtain ⟨rfl, rfl⟩ := h
    cases e <;> simp only [D.setAt] at ha <;> try (cases ha; done)
    injection ha with ha; subst ha
    simp only [D.at_, List.length_cons, List.length_nil] at ho
    obtain rfl : o = 0 := by omega
    simp [D.elems, D.at_, List.map_set]
  · obtain ⟨rfl, rfl⟩ := h
    simp only [D.setAt] at ha
    injection ha with ha; subst ha
    simp [D.elems, D.at_]

theorem add_off (b k : Nat) (j : Nat) : (⟨b, k, none⟩ : Addr).add j = ⟨b, k + j, none⟩ := by unfold Addr.add; split <;> simp_all
theorem add_add (a : Addr) (i j : Nat) : (a.add i).add j = a.add (i + j) := by
  unfold Addr.add
  by_cases hi : i = 0
  · subst hi; simp
  · by_cases hj : j = 0
    · subst hj; simp [hi]
    · have : i + j ≠ 0 := by omega
      simp [hi, hj, this, Nat.add_assoc]
theorem cell_of {w : World} {b k : Nat} {vs : Array Value} {T : TypeId} {fr : Nat × Nat} (h : w.heap[b]? = some (.cells vs T fr)) : w.cell? ⟨b, k, none⟩ = vs[k]? := by
  simp [World.cell?, h]

/-! ### Slices of an object, as data -/
theorem arr_reads {E : Ent} {H : Heap} {pl : Pl} {w : World} (h : HR E H pl w) {id ver off len : Nat} {fr : Bool} {d : D} {v : Value} (hg : getA id H = some (.arr ver fr d))
    (hv : oslR H pl id ver off len v) (Z : Nat → Prop) (hZ : ∀ b, pl.blk id = some b → ¬ Z b) (hZ2 : ∀ b, b < w.heap.size → ¬ zone E.b H pl fr b → ¬ Z b) : (d.cut off len).isRow = true ∧ (d.cut off len).len = len ∧ Reads Z w v (d.cut off len) := by
  unfold oslR at hv
  rw [hg] at hv
  obtain ⟨a, cap, rfl, h1, h2, h3⟩ := hv.2 rfl
  obtain ⟨es, xs, g1, g2, g3, g4, g5⟩ := h.objs id _ hg
  have hc := elems_cut g1 off len
  have hl : ((xs.drop off).take len).length = len := by rw [elems_len g1] at h1; simp; omega
  refine ⟨elems_row hc, by rw [elems_len hc, hl], ?_⟩
  by_cases h0 : 0 < len
  · obtain ⟨b, hb, rfl, hcap⟩ := h3 (by omega)
    obtain ⟨vs, T, k1, k2, k3, k4⟩ := g5 b hb
    rw [elems_es g1]
    have hel : ∀ j o : Nat, ((xs.drop off).take len)[j]?.bind (·[o]?) = if j < len then xs[off + j]?.bind (·[o]?) else none := fun j o => by
      by_cases hj : j < len
      · simp [List.getElem?_take, hj]
      · simp [List.getElem?_take, hj]
    have hget : ∀ j o, j < len → o < es → ∃ e, xs[off + j]?.bind (·[o]?) = some e := fun j o hj ho => by
      have hx : off + j < xs.length := by rw [elems_len g1] at h1; omega
      have hlen := g3 (xs[off + j]) (List.getElem_mem hx)
      exact ⟨(xs[off + j])[o]'(by omega), by simp [List.getElem?_eq_getElem hx, List.getElem?_eq_getElem (show o < (xs[off + j]).length by omega)]⟩
    refine .slice _ len cap _ es _ hc hl.symm h2 g2 (fun x hx => g3 x (List.mem_of_mem_drop (List.mem_of_mem_take hx))) ⟨b, off * es, none⟩ (fun j o => vs.getD ((off + j) * es + o) undef) (fun _ => ⟨rfl, hZ b hb⟩) (fun j o hj ho => ?_) (fun j o e he => ?_)
    · obtain ⟨e, he⟩ := hget j o hj ho
      obtain ⟨u, hu, _⟩ := k4 _ _ _ he
      rw [add_off, cell_of k1, ← Nat.add_assoc, ← Nat.add_mul, hu]
      simp [hu]
    · rw [hel] at he
      split at he
      · obtain ⟨u, hu, hr⟩ := k4 _ _ _ he
        have : vs.getD ((off + j) * es + o) undef = u := by simp [hu]
        simp only [this]
        exact hr.mono fun b hb hz => ⟨hZ2 b hb hz, rfl⟩
      · cases he
  · obtain rfl : len = 0 := by omega
    exact .slice _ 0 cap _ es _ hc hl.symm h2 g2 (fun x hx => by simp at hx) ⟨0, 0, none⟩ (fun _ _ => undef) (fun h => absurd h (by omega)) (fun j o hj => absurd hj (by omega)) (fun j o e he => by simp at he)

/-! ### A new object -/
def Pl.put (pl : Pl) (id : Nat) (b : Option Nat) (cap : Nat) : Pl := ⟨fun i => if i = id then b else pl.blk i, fun i => if i = id then cap else pl.cap i⟩
theorem Pl.put_blk (pl : Pl) (id : Nat) (b : Option Nat) (cap : Nat) : (pl.put id b cap).blk id = b := by simp [Pl.put]
theorem Pl.put_cap (pl : Pl) (id : Nat) (b : Option Nat) (cap : Nat) : (pl.put id b cap).cap id = cap := by simp [Pl.put]
theorem Pl.put_blk_ne (pl : Pl) {id i : Nat} (b : Option Nat) (cap : Nat) (h : i ≠ id) : (pl.put id b cap).blk i = pl.blk i := by simp [Pl.put, h]
theorem Pl.put_cap_ne (pl : Pl) {id i : Nat} (b : Option Nat) (cap : Nat) (h : i ≠ id) : (pl.put id b cap).cap i = pl.cap i := by simp [Pl.put, h]

theorem evo_new {B : Bs} {H : Heap} {pl : Pl} {w w' : World} {id : Nat} {o' : Obj} (hv : ∀ o, getA id H = some o → o.ver < o'.ver) (b : Option Nat) (cap : Nat)
    (hb : ∀ k, b = some k → w.heap.size ≤ k) (hB : B.n ≤ w.heap.size) (hh : ∀ k, k < w.heap.size → w'.heap[k]? = w.heap[k]?) : Evo B H pl w (setA id o' H) (pl.put id b cap) w' := by
  refine ⟨fun i o hi => ?_, fun fr k hk hz => ?_, fun k hk _ => hh k hk⟩
  · rw [getA_setA]
    by_cases h : id = i
    · subst h
      exact ⟨o', by rw [if_pos rfl], .inl (hv o hi)⟩
    · refine ⟨o, by rw [if_neg h]; exact hi, ?_⟩
      have := o.to_refl pl i
      unfold Obj.to at *
      rw [Pl.put_blk_ne _ _ _ (fun e => h e.symm), Pl.put_cap_ne _ _ _ (fun e => h e.symm)]
      exact this
  · rintro (⟨i, o, h1, h2, h3⟩ | h)
    · rw [getA_setA] at h1
      by_cases h : id = i
      · subst h
        rw [Pl.put_blk] at h3
        have := hb k h3
        omega
      · rw [if_neg h] at h1
        rw [Pl.put_blk_ne _ _ _ (fun e => h e.symm)] at h3
        exact hz (.inl ⟨i, o, h1, h2, h3⟩)
    · exact hz (.inr h)
theorem HR.new {E : Ent} {H : Heap} {pl : Pl} {w w' : World} (h : HR E H pl w) {id : Nat} {o' : Obj} (hid : ∀ oi, getA id E.hin = some oi → oi.ver < o'.ver) (hv : ∀ o, getA id H = some o → o.ver < o'.ver) (b : Option Nat) (cap : Nat)
    (hw : w'.os = w.os ∧ w'.tape = w.tape ∧ w'.output = w.output ∧ w.heap.size ≤ w'.heap.size) (hb : ∀ k, b = some k → w.heap.size ≤ k ∧ k < w'.heap.size)
    (hh : ∀ k, k < w.heap.size → w'.heap[k]? = w.heap[k]?)
    (ho : Evo E.b H pl w (setA id o' H) (pl.put id b cap) w' → ObjR E.b (setA id o' H) (pl.put id b cap) w' id o') :
    HR E (setA id o' H) (pl.put id b cap) w' ∧ Evo E.b H pl w (setA id o' H) (pl.put id b cap) w' := by
  have hev : Evo E.b H pl w (setA id o' H) (pl.put id b cap) w' := evo_new hv b cap (fun k hk => (hb k hk).1) h.size hh
  refine ⟨h.step hw hev (· = id) (fun i hi => ⟨?_, Pl.put_blk_ne _ _ _ hi, Pl.put_cap_ne _ _ _ hi⟩) (fun i o k hi h1 h2 h3 => hh k (h.blk i o k h1 h2 h3).1) ?_ (fun i i' _ _ _ h1 h2 _ _ _ _ _ _ => h1.trans h2.symm), hev⟩
  · rw [getA_setA, if_neg (fun e => hi e.symm)]
  · rintro i o rfl h1
    rw [getA_setA, if_pos rfl] at h1
    injection h1 with h1
    subst h1
    refine ⟨ho hev, fun oi hoi => ?_, fun k _ hk => ?_⟩
    · exact .inl (hid oi hoi)
    · rw [Pl.put_blk] at hk
      exact ⟨(hb k hk).2, .inl (hb k hk).1⟩
theorem HR.fresh {E : Ent} {H : Heap} {pl : Pl} {w : World} (h : HR E H pl w) {id v : Nat} (hid : id < 8000) : ∀ oi, getA id E.hin = some oi → oi.ver < v := fun oi hoi => by
  have := h.lentid id oi hoi
  omega
theorem ver_new {H : Heap} {id : Nat} : ∀ o, getA id H = some o → o.ver < verOf H id := fun o h => by simp [verOf, h]

/-! ### An object that is only read from now on -/
theorem evo_kill {B : Bs} {H : Heap} {pl : Pl} {w : World} {id v : Nat} (hv : ∀ o, getA id H = some o → o.ver < v) : Evo B H pl w (setA id (.dead v) H) pl w := by
  refine ⟨fun i o hi => ?_, fun fr k hk hz => ?_, fun _ _ _ => rfl⟩
  · rw [getA_setA]
    by_cases h : id = i
    · subst h
      exact ⟨.dead v, by rw [if_pos rfl], .inl (hv o hi)⟩
    · exact ⟨o, by rw [if_neg h]; exact hi, o.to_refl pl i⟩
  · rintro (⟨i, o, h1, h2, h3⟩ | h)
    · rw [getA_setA] at h1
      by_cases h : id = i
      · subst h
        rw [if_pos rfl] at h1
        injection h1 with h1
        subst h1
        simp [Obj.live] at h2
      · rw [if_neg h] at h1
        exact hz (.inl ⟨i, o, h1, h2, h3⟩)
    · exact hz (.inr h)
theorem HR.kill {E : Ent} {H : Heap} {pl : Pl} {w : World} (h : HR E H pl w) {id v : Nat} (hid : id < 8000) (hv : ∀ o, getA id H = some o → o.ver < v) : HR E (setA id (.dead v) H) pl w := by
  refine h.step ⟨rfl, rfl, rfl, Nat.le_refl _⟩ (evo_kill hv) (· = id) (fun i hi => ⟨?_, rfl, rfl⟩) (fun _ _ _ _ _ _ _ => rfl) ?_ (fun i i' _ _ _ h1 h2 _ _ _ _ _ _ => h1.trans h2.symm)
  · rw [getA_setA, if_neg (fun e => hi e.symm)]
  · rintro i o rfl h1
    rw [getA_setA, if_pos rfl] at h1
    injection h1 with h1
    subst h1
    refine ⟨trivial, fun oi hoi => ?_, fun k hl => ?_⟩
    · have := h.lentid i oi hoi
      omega
    · simp [Obj.live] at hl
end Go.AM
