/- The abstract machine over which this seat's functions are walked: its values, its memory, and how these read in the model's worlds. -/
import Derived.Calls
import Derived.Orders
import Derived.Below
set_option linter.unusedVariables false
set_option linter.unusedSimpArgs false
set_option linter.unusedSectionVars false
namespace Go.AM

/-- Data that is read and never written while it is held: a slice is its elements, each a list of cells. -/
inductive D where
  | int (k : IntKind) (n : Int)
  | bool (b : Bool)
  | str (s : ByteArray)
  | ints (k : IntKind) (l : List Int)
  | bools (l : List Bool)
  | recs (es : Nat) (xs : List (List D))
  deriving Inhabited

/-- A slice's cells an element, and its elements. -/
def D.elems : D → Option (Nat × List (List D))
  | .ints k l => some (1, l.map fun x => [D.int k x])
  | .bools l => some (1, l.map fun x => [D.bool x])
  | .recs es xs => some (es, xs)
  | _ => none

/-- Nothing in it is a slice. -/
def D.flat : D → Bool
  | .int _ _ | .bool _ | .str _ => true
  | _ => false
/-- No element of this slice holds a slice. -/
def D.flatRow : D → Bool
  | .recs _ xs => xs.all fun x => x.all D.flat
  | _ => true
def D.len : D → Nat
  | .ints _ l => l.length
  | .bools l => l.length
  | .recs _ xs => xs.length
  | _ => 0
def D.at_ (d : D) (j : Nat) : List D :=
  match d with
  | .ints k l => [.int k (l.getD j 0)]
  | .bools l => [.bool (l.getD j false)]
  | .recs _ xs => xs.getD j []
  | _ => []
def D.es : D → Nat
  | .recs es _ => es
  | _ => 1
def D.isRow : D → Bool
  | .ints _ _ | .bools _ | .recs _ _ => true
  | _ => false
def D.cut (d : D) (i n : Nat) : D :=
  match d with
  | .ints k l => .ints k ((l.drop i).take n)
  | .bools l => .bools ((l.drop i).take n)
  | .recs es xs => .recs es ((xs.drop i).take n)
  | d => d

/-- A value reads as this in w, and no cell that is read lies in a block of Z. -/
inductive Reads (Z : Nat → Prop) (w : World) : Value → D → Prop
  | int (k : IntKind) (n : Int) : Reads Z w (.int k n) (.int k n)
  | bool (b : Bool) : Reads Z w (.bool b) (.bool b)
  | str (s : ByteArray) : Reads Z w (.string s) (.str s)
  | slice (a : Option Addr) (n c : Nat) (d : D) (es : Nat) (xs : List (List D)) (he : d.elems = some (es, xs)) (hn : n = xs.length) (hc : n ≤ c)
      (hes0 : 0 < es) (hes : ∀ x ∈ xs, x.length = es) (ad : Addr) (f : Nat → Nat → Value) (ha : 0 < n → a = some ad ∧ ¬ Z ad.block)
      (hcell : ∀ j o, j < n → o < es → w.cell? (ad.add (j * es + o)) = some (f j o))
      (hr : ∀ j o (e : D), (xs[j]?.bind (·[o]?)) = some e → Reads Z w (f j o) e) : Reads Z w (.slice a n c) d

theorem add_block (a : Addr) (n : Nat) : (a.add n).block = a.block := by unfold Addr.add; split <;> rfl
theorem cell_lt {w : World} {a : Addr} {v : Value} (h : w.cell? a = some v) : a.block < w.heap.size := by
  unfold World.cell? at h
  split at h
  · rename_i hb; exact (Array.getElem?_eq_some_iff.1 hb).1
  · cases h
theorem cell_same {w w' : World} {a : Addr} (h : w'.heap[a.block]? = w.heap[a.block]?) : w'.cell? a = w.cell? a := by
  unfold World.cell?; rw [h]

theorem Reads.mono {Z Z' : Nat → Prop} {w w' : World} (hs : ∀ b, b < w.heap.size → ¬ Z b → ¬ Z' b ∧ w'.heap[b]? = w.heap[b]?) {v : Value} {d : D} (h : Reads Z w v d) : Reads Z' w' v d := by
  induction h with
  | int k n => exact .int k n
  | bool b => exact .bool b
  | str s => exact .str s
  | slice a n c d es xs he hn hc hes0 hes ad f ha hcell hr ih =>
    have key : 0 < n → ¬ Z' ad.block ∧ w'.heap[ad.block]? = w.heap[ad.block]? := fun hj => by
      have h1 := cell_lt (hcell 0 0 hj hes0)
      rw [add_block] at h1
      exact hs _ h1 (ha hj).2
    refine .slice a n c d es xs he hn hc hes0 hes ad f (fun h => ⟨(ha h).1, (key h).1⟩) (fun j o hj ho => ?_) ih
    exact (cell_same (w := w) (w' := w') (by rw [add_block]; exact (key (by omega)).2)).trans (hcell j o hj ho)
theorem Reads.flat {Z Z' : Nat → Prop} {w w' : World} {v : Value} {d : D} (hf : d.flat = true) (h : Reads Z w v d) : Reads Z' w' v d := by
  cases h with
  | int k n => exact .int k n
  | bool b => exact .bool b
  | str s => exact .str s
  | slice a n c d es xs he => cases d <;> simp [D.flat] at hf <;> simp [D.elems] at he

/-! ### Assoc lists -/
def getA {α : Type} (k : Nat) : List (Nat × α) → Option α
  | [] => none
  | (j, x) :: r => if j = k then some x else getA k r
def setA {α : Type} (k : Nat) (v : α) : List (Nat × α) → List (Nat × α)
  | [] => [(k, v)]
  | (j, x) :: r => if j = k then (j, v) :: r else (j, x) :: setA k v r
def delA {α : Type} (k : Nat) : List (Nat × α) → List (Nat × α)
  | [] => []
  | (j, x) :: r => if j = k then delA k r else (j, x) :: delA k r
theorem getA_setA {α : Type} (k j : Nat) (v : α) (l : List (Nat × α)) : getA j (setA k v l) = if k = j then some v else getA j l := by
  induction l with
  | nil => simp [setA, getA]
  | cons p r ih =>
    obtain ⟨i, x⟩ := p
    by_cases h : i = k
    · subst h; simp [setA, getA]; split <;> rfl
    · simp only [setA, if_neg h, getA, ih]
      by_cases h2 : i = j
      · subst h2
        rw [if_pos rfl, if_pos rfl, if_neg (fun e => h e.symm)]
      · rw [if_neg h2, if_neg h2]
theorem getA_delA {α : Type} (k j : Nat) (l : List (Nat × α)) : getA j (delA k l) = if k = j then none else getA j l := by
  induction l with
  | nil => simp [delA, getA]
  | cons p r ih =>
    obtain ⟨i, x⟩ := p
    by_cases h : i = k
    · subst h
      simp only [delA, if_true, ih, getA]
      split <;> rfl
    · simp only [delA, if_neg h, getA, ih]
      by_cases h2 : i = j
      · subst h2
        rw [if_pos rfl, if_pos rfl, if_neg (fun e => h e.symm)]
      · rw [if_neg h2, if_neg h2]

/-! ### Cells, values, objects, states -/
/-- One cell. 'dsl': a slice that is only read ('fr': in memory of the call's own). 'dp': a pointer to cells that are only read.
'osl': a slice of an object of the state, from an element on, so many. 'ptr': a pointer into an object: element, cell. 'fn': a function value with captured pointers. -/
inductive C where
  | int (k : IntKind) (n : Int)
  | bool (b : Bool)
  | str (s : ByteArray)
  | nil
  | dsl (fr : Bool) (d : D)
  | dp (fr : Bool) (ds : List D)
  | osl (id ver off len : Nat)
  | ptr (id ver j o : Nat)
  | fn (f : FuncId) (caps : List (Nat × Nat))
  | bad
  deriving Inhabited
inductive V where
  | c (x : C)
  | agg (xs : List C)
  deriving Inhabited
def V.cells : V → List C
  | .c x => [x]
  | .agg xs => xs
inductive LV where
  | v (x : V)
  | tup (xs : List V)
  deriving Inhabited
/-- What the call may write: a variable of some cells, or an array; 'dead': an array that is only read from now on. -/
inductive Obj where
  | box (ver : Nat) (cs : List C)
  | arr (ver : Nat) (fr : Bool) (d : D)
  | dead (ver : Nat)
  deriving Inhabited
def Obj.ver : Obj → Nat
  | .box v _ | .arr v _ _ | .dead v => v
def Obj.live : Obj → Bool
  | .dead _ => false
  | _ => true
abbrev Heap := List (Nat × Obj)
structure St where
  env : List (Nat × LV)
  heap : Heap

/-- Where the objects lie: their blocks, and how many elements an array has room for. -/
structure Pl where
  blk : Nat → Option Nat
  cap : Nat → Nat

/-- How many blocks were there when the call began; the old ones that nothing which the call is handed reads. -/
structure Bs where
  n : Nat
  X : Nat → Prop
/-- The blocks that the call may write, and those that it knows nothing of ('fr': and those that were there before it). -/
def zone (B : Bs) (H : Heap) (pl : Pl) (fr : Bool) (b : Nat) : Prop :=
  (∃ id o, getA id H = some o ∧ o.live = true ∧ pl.blk id = some b) ∨ ((fr = true ∧ b < B.n) ∨ B.X b)

def ptrR (H : Heap) (pl : Pl) (id ver j o : Nat) (v : Value) : Prop :=
  match getA id H with
  | some (.box ver' _) => ver ≤ ver' ∧ (ver = ver' → j = 0 ∧ ∃ b, pl.blk id = some b ∧ v = .pointer (some ⟨b, o, none⟩))
  | some (.arr ver' _ d) => ver ≤ ver' ∧ (ver = ver' → ∃ b, pl.blk id = some b ∧ v = .pointer (some ⟨b, j * d.es + o, none⟩))
  | some (.dead ver') => ver < ver'
  | none => False
def oslR (H : Heap) (pl : Pl) (id ver off len : Nat) (v : Value) : Prop :=
  match getA id H with
  | some (.arr ver' _ d) => ver ≤ ver' ∧ (ver = ver' → ∃ a cap, v = .slice a len cap ∧ off + len ≤ d.len ∧ len ≤ cap ∧
      (0 < cap → ∃ b, pl.blk id = some b ∧ a = some ⟨b, off * d.es, none⟩ ∧ off + cap ≤ pl.cap id))
  | some (.dead ver') => ver < ver'
  | some (.box ver' _) => ver < ver'
  | none => False

def CR (B : Bs) (H : Heap) (pl : Pl) (w : World) : C → Value → Prop
  | .int k n, v => v = .int k n
  | .bool b, v => v = .bool b
  | .str s, v => v = .string s
  | .nil, v => v = .slice none 0 0
  | .dsl fr d, v => d.isRow = true ∧ Reads (zone B H pl fr) w v d
  | .dp fr ds, v => ∃ p, v = .pointer (some p) ∧ ∀ (o : Nat) e, ds[o]? = some e → ∃ u, w.cell? (p.add o) = some u ∧ ¬ zone B H pl fr p.block ∧ Reads (zone B H pl fr) w u e
  | .osl id ver off len, v => (∃ a m c, v = .slice a m c) ∧ oslR H pl id ver off len v
  | .ptr id ver j o, v => (∃ p, v = .pointer (some p)) ∧ ptrR H pl id ver j o v
  | .fn f caps, v => ∃ cs : List Value, v = .func (.func f) #[] cs.toArray ∧ cs.length = caps.length ∧ ∀ (i id ver : Nat), caps[i]? = some (id, ver) → ∃ u, cs[i]? = some u ∧ ptrR H pl id ver 0 0 u
  | .bad, _ => True
def VR (B : Bs) (H : Heap) (pl : Pl) (w : World) : V → Value → Prop
  | .c x, v => CR B H pl w x v
  | .agg xs, v => ∃ cs : Array Value, v = .agg cs ∧ cs.size = xs.length ∧ ∀ (i : Nat) c, xs[i]? = some c → ∃ u, cs[i]? = some u ∧ CR B H pl w c u
def LVR (B : Bs) (H : Heap) (pl : Pl) (w : World) : LV → Value → Prop
  | .v x, v => VR B H pl w x v
  | .tup xs, v => ∃ cs : Array Value, v = .tuple cs ∧ cs.size = xs.length ∧ ∀ (i : Nat) c, xs[i]? = some c → ∃ u, cs[i]? = some u ∧ VR B H pl w c u

def ObjR (B : Bs) (H : Heap) (pl : Pl) (w : World) (id : Nat) : Obj → Prop
  | .box _ cs => ∃ b vs T, pl.blk id = some b ∧ w.heap[b]? = some (.cells vs T (0, 0)) ∧ vs.size = cs.length ∧ ∀ (i : Nat) c, cs[i]? = some c → ∃ u, vs[i]? = some u ∧ CR B H pl w c u
  | .arr _ fr d => ∃ es xs, d.elems = some (es, xs) ∧ 0 < es ∧ (∀ x ∈ xs, x.length = es) ∧ (pl.blk id = none → xs = []) ∧
      ∀ b, pl.blk id = some b → ∃ vs T, w.heap[b]? = some (.cells vs T (0, 0)) ∧ vs.size = pl.cap id * es ∧ xs.length ≤ pl.cap id ∧
        ∀ (j o : Nat) e, (xs[j]?.bind (·[o]?)) = some e → ∃ u, vs[j * es + o]? = some u ∧ Reads (zone B H pl fr) w u e
  | .dead _ => True

/-- How the call began: the world, where what was lent to it lies, and what was lent. -/
structure Ent where
  w0 : World
  pl0 : Pl
  hin : Heap
  X : Nat → Prop
def Ent.b (E : Ent) : Bs := ⟨E.w0.heap.size, E.X⟩

/-- What an object may become: something newer; or the same, longer. -/
def Obj.to (pl pl' : Pl) (id : Nat) (o o' : Obj) : Prop :=
  o.ver < o'.ver ∨ match o, o' with
    | .box v _, .box v' _ => v = v' ∧ pl'.blk id = pl.blk id
    | .arr v _ d, .arr v' _ d' => v = v' ∧ pl'.blk id = pl.blk id ∧ pl'.cap id = pl.cap id ∧ d'.es = d.es ∧ d.len ≤ d'.len
    | .dead v, .dead v' => v = v'
    | _, _ => False
theorem Obj.to_refl (pl : Pl) (id : Nat) (o : Obj) : o.to pl pl id o := by
  cases o <;> simp [Obj.to]
theorem Obj.to_ver {pl pl' : Pl} {id : Nat} {o o' : Obj} (h : o.to pl pl' id o') : o.ver ≤ o'.ver := by
  rcases h with h | h
  · omega
  · cases o <;> cases o' <;> simp [Obj.ver] at h ⊢ <;> first | exact h.elim | omega
theorem Obj.to_trans {pl pl' pl'' : Pl} {id : Nat} {o o' o'' : Obj} (h : o.to pl pl' id o') (h' : o'.to pl' pl'' id o'') : o.to pl pl'' id o'' := by
  rcases h with h | h
  · exact .inl (Nat.lt_of_lt_of_le h (Obj.to_ver h'))
  · rcases h' with h' | h'
    · left
      cases o <;> cases o' <;> simp [Obj.ver] at h h' ⊢ <;> first | exact h.elim | omega
    · right
      cases o <;> cases o' <;> try exact h.elim
      all_goals cases o'' <;> try exact h'.elim
      · exact ⟨h.1.trans h'.1, h'.2.trans h.2⟩
      · exact ⟨h.1.trans h'.1, h'.2.1.trans h.2.1, h'.2.2.1.trans h.2.2.1, h'.2.2.2.1.trans h.2.2.2.1, Nat.le_trans h.2.2.2.2 h'.2.2.2.2⟩
      · exact Eq.trans h h'

structure HR (E : Ent) (H : Heap) (pl : Pl) (w : World) : Prop where
  os : w.os = E.w0.os
  tape : w.tape = E.w0.tape
  output : w.output = E.w0.output
  size : E.w0.heap.size ≤ w.heap.size
  frame : ∀ b, b < E.w0.heap.size → (∀ id o, getA id E.hin = some o → E.pl0.blk id ≠ some b) → w.heap[b]? = E.w0.heap[b]?
  blk : ∀ id o b, getA id H = some o → o.live = true → pl.blk id = some b → b < w.heap.size ∧ (E.w0.heap.size ≤ b ∨ ∃ oi, getA id E.hin = some oi ∧ E.pl0.blk id = some b)
  inj : ∀ id id' o o' b, getA id H = some o → o.live = true → getA id' H = some o' → o'.live = true → pl.blk id = some b → pl.blk id' = some b → id = id'
  hX : ∀ b, E.X b → b < E.w0.heap.size
  hXl : ∀ id o b, getA id E.hin = some o → E.pl0.blk id = some b → ¬ E.X b
  lentid : ∀ id o, getA id E.hin = some o → 8000 ≤ id
  lent : ∀ id o oi, getA id H = some o → getA id E.hin = some oi → oi.to E.pl0 pl id o
  objs : ∀ id o, getA id H = some o → ObjR E.b H pl w id o

def Rel (E : Ent) (n : Nat) (s : St) (a : Act) (w : World) : Prop :=
  ∃ pl, HR E s.heap pl w ∧ a.defers = [] ∧ a.tmps.size = n ∧ ∀ t lv, getA t s.env = some lv → LVR E.b s.heap pl w lv (a.tmps.getD t undef)

/-- A call's contract: with these arguments, these objects lent, it returns; then 'post' holds of the result and the objects. -/
structure CallsA (P : Program) (f : FuncId) (args : List V) (hin : Heap) (post : LV → Heap → Prop) : Prop where
  body : ∃ fn, P.funcs[f]? = some fn ∧ fn.body.isNone = false ∧ (fn.name == "runtime.NumGoroutine") = false
  run : ∀ (w : World) (pl : Pl) (X : Nat → Prop) (vs : Array Value), HR ⟨w, pl, hin, X⟩ hin pl w → vs.size = args.length →
    (∀ (i : Nat) x, args[i]? = some x → ∃ u, vs[i]? = some u ∧ VR ⟨w.heap.size, X⟩ hin pl w x u) →
    Calls P f vs w fun e w' => ∃ v r hout pl', e = .returned v ∧ post r hout ∧ HR ⟨w, pl, hin, X⟩ hout pl' w' ∧ LVR ⟨w.heap.size, X⟩ hout pl' w' r v

theorem CallsA.mono {P : Program} {f : FuncId} {args : List V} {hin : Heap} {post post' : LV → Heap → Prop} (h : CallsA P f args hin post) (hp : ∀ r ho, post r ho → post' r ho) :
    CallsA P f args hin post' := ⟨h.body, fun w pl X vs h1 h2 h3 =>
  (h.run w pl X vs h1 h2 h3).mono fun _ _ ⟨v, r, ho, pl', e, p, q⟩ => ⟨v, r, ho, pl', e, hp _ _ p, q⟩⟩
end Go.AM
