/- The abstract machine's operations. -/
import Derived.Test.YtaicenafkjbnoaaAmA
set_option linter.unusedVariables false
set_option linter.unusedSimpArgs false
set_option linter.unusedSectionVars false
namespace Go.AM

/-! ### Types -/
inductive TK where
  | int (k : IntKind)
  | bool
  | str
  | slice (e : TypeId)
  | ptr
  | struct (fs : List (Nat × TypeId))
  | array (n : Nat) (e : TypeId)
  | func
  | other
def TK.agg : TK → Bool
  | .struct _ | .array _ _ => true
  | _ => false
structure Ty where
  k : TK
  size : Nat
  bytes : Nat
  zero : List C

def ZC : C → Value → Prop
  | .int k n, v => v = .int k n
  | .bool b, v => v = .bool b
  | .str s, v => v = .string s
  | .nil, v => v = .slice none 0 0
  | .bad, _ => True
  | _, _ => False
def KOk (P : Program) : TK → TypeDesc → Prop
  | .int k, d => d = .int k
  | .bool, d => d = .bool
  | .str, d => d = .string
  | .slice e, d => d = .slice e
  | .ptr, d => ∃ e, d = .pointer e
  | .struct fs, d => ∃ flds, d = .struct flds ∧ flds.size = fs.length ∧ ∀ (i : Nat) off t, fs[i]? = some (off, t) → ∃ f, flds[i]? = some f ∧ f.offset = off ∧ f.type = t ∧ (P.info? t).isSome = true
  | .array n e, d => d = .array n e
  | .func, d => ∃ a b c, d = .func a b c
  | .other, _ => True
def isAggD : TypeDesc → Bool
  | .struct _ | .array _ _ => true
  | _ => false
structure TyOk (P : Program) (t : TypeId) (ty : Ty) : Prop where
  out : ∃ i d z, P.info? t = some i ∧ P.underlying t = some d ∧ i.size = ty.size ∧ i.bytes = ty.bytes ∧ i.zero = some z ∧ z.cells.size = ty.zero.length ∧
    (∀ (j : Nat) c, ty.zero[j]? = some c → ∃ v, z.cells[j]? = some v ∧ ZC c v) ∧ KOk P ty.k d ∧ isAggD d = ty.k.agg
  zlen : ty.zero.length = ty.size
abbrev TV := TypeId → Option Ty
def TVOk (P : Program) (tv : TV) : Prop := ∀ t ty, tv t = some ty → TyOk P t ty

/-! ### Operands -/
def constC : Value → C
  | .int k n => .int k n
  | .bool b => .bool b
  | .string s => .str s
  | .slice none 0 0 => .nil
  | _ => .bad
def St.ev (s : St) : Operand → LV
  | .tmp t => (getA t s.env).getD (.v (.c .bad))
  | .const v => .v (.c (constC v))
  | .func f => .v (.c (.fn f []))
  | .global _ => .v (.c .bad)
def LV.one : LV → V
  | .v x => x
  | .tup _ => .c .bad
def V.one : V → C
  | .c x => x
  | .agg _ => .bad
abbrev St.evV (s : St) (x : Operand) : V := (s.ev x).one
abbrev St.evC (s : St) (x : Operand) : C := (s.ev x).one.one

/-! ### Numbers -/
def bitsI (op : BinOp) (k : IntKind) (a b : Int) : Int :=
  match op with
  | .and => k.wrap (BitVec.ofInt k.bits a &&& BitVec.ofInt k.bits b).toNat
  | .or => k.wrap (BitVec.ofInt k.bits a ||| BitVec.ofInt k.bits b).toNat
  | .xor => k.wrap (BitVec.ofInt k.bits a ^^^ BitVec.ofInt k.bits b).toNat
  | _ => k.wrap (BitVec.ofInt k.bits a &&& ~~~ BitVec.ofInt k.bits b).toNat
def shiftOp : BinOp → Bool
  | .shl | .shr => true
  | _ => false
def arithC (op : BinOp) (k : IntKind) (a b : Int) : Prop × C :=
  match op with
  | .add => (True, .int k (k.wrap (a + b)))
  | .sub => (True, .int k (k.wrap (a - b)))
  | .mul => (True, .int k (k.wrap (a * b)))
  | .quo => (b ≠ 0, .int k (k.wrap (a.tdiv b)))
  | .rem => (b ≠ 0, .int k (a.tmod b))
  | .and => (True, .int k (bitsI .and k a b))
  | .or => (True, .int k (bitsI .or k a b))
  | .xor => (True, .int k (bitsI .xor k a b))
  | .andNot => (True, .int k (bitsI .andNot k a b))
  | .shl => (0 ≤ b, .int k (k.wrap (a * 2 ^ (min b.toNat k.bits))))
  | .shr => (0 ≤ b, .int k (a.fdiv (2 ^ (min b.toNat k.bits))))
  | .eql => (True, .bool (a == b))
  | .neq => (True, .bool (a != b))
  | .lss => (True, .bool (decide (a < b)))
  | .leq => (True, .bool (decide (a ≤ b)))
  | .gtr => (True, .bool (decide (a > b)))
  | .geq => (True, .bool (decide (a ≥ b)))
def strC (op : BinOp) (a b : ByteArray) : Option (Prop × C) :=
  match op with
  | .add => some (a.size + b.size ≤ 9223372036854775807, .str (a ++ b))
  | .eql => some (True, .bool (a.toList == b.toList))
  | .neq => some (True, .bool (!(a.toList == b.toList)))
  | _ => none
def binC (tv : TV) (op : BinOp) (t : TypeId) (x y : C) : Option (Prop × C) :=
  match x, y with
  | .int k a, .int k' b => if shiftOp op = true ∨ k = k' then some (arithC op k a b) else none
  | .bool a, .bool b =>
    match tv t with
    | some ⟨.bool, _, _, _⟩ =>
      match op with
      | .eql => some (True, .bool (a == b))
      | .neq => some (True, .bool (!(a == b)))
      | _ => none
    | _ => none
  | .str a, .str b => strC op a b
  | _, _ => none

/-! ### Cells as data, and back -/
def ofD (fr : Bool) : D → C
  | .int k n => .int k n
  | .bool b => .bool b
  | .str s => .str s
  | d => .dsl fr d
def rowD0 (H : Heap) : C → Option (D × Bool)
  | .nil => some (.ints .i64 [], true)
  | .dsl fr d => some (d, fr)
  | .osl id ver off len =>
    match getA id H with
    | some (.arr ver' fr d) => if ver = ver' then some (d.cut off len, fr) else none
    | _ => none
  | _ => none
/-- A slice's data, and whether it is of the call's own: what holds no slices always is. -/
def rowD (H : Heap) (c : C) : Option (D × Bool) := (rowD0 H c).map fun r => (r.1, r.2 || r.1.flatRow)
def scalD : C → Option D
  | .int k n => some (.int k n)
  | .bool b => some (.bool b)
  | .str s => some (.str s)
  | _ => none
/-- One cell, laid into an array for good: what it is, whether it is of the call's own, and the object that is written no more. -/
def frzD (H : Heap) : C → Option (D × Bool × List Nat)
  | .int k n => some (.int k n, true, [])
  | .bool b => some (.bool b, true, [])
  | .str s => some (.str s, true, [])
  | .nil => some (.ints .i64 [], true, [])
  | .dsl fr d => some (d, fr, [])
  | .osl id ver off len =>
    match getA id H with
    | some (.arr ver' fr d) => if ver = ver' ∧ id < 8000 then some (d.cut off len, fr, [id]) else none
    | _ => none
  | _ => none
def frzDs (H : Heap) : List C → Option (List D × Bool × List Nat)
  | [] => some ([], true, [])
  | c :: r =>
    match frzD H c, frzDs H r with
    | some (d, f, k), some (ds, f', k') => some (d :: ds, f && f', k ++ k')
    | _, _ => none
def D.setAt (d : D) (j o : Nat) (e : D) : Option D :=
  match d, e with
  | .ints k l, .int k' x => if k = k' then some (.ints k (l.set j x)) else none
  | .bools l, .bool b => some (.bools (l.set j b))
  | .recs es xs, e => some (.recs es (xs.set j ((xs.getD j []).set o e)))
  | _, _ => none
def D.app (d e : D) : Option D :=
  match d, e with
  | .ints k l, .ints k' m => if k = k' then some (.ints k (l ++ m)) else none
  | .bools l, .bools m => some (.bools (l ++ m))
  | .recs es xs, .recs es' ys => if es = es' then some (.recs es (xs ++ ys)) else none
  | _, _ => none
/-- Rows of elements as data, by the element's type. -/
def allInts (k : IntKind) : List (List D) → Option (List Int)
  | [] => some []
  | [.int k' x] :: r => if k = k' then (allInts k r).map (x :: ·) else none
  | _ => none
def allBools : List (List D) → Option (List Bool)
  | [] => some []
  | [.bool x] :: r => (allBools r).map (x :: ·)
  | _ => none
def mkRow (ty : Ty) (xs : List (List D)) : Option D :=
  if ty.size = 0 then none else
  match ty.k with
  | .int k => if ty.size = 1 then (allInts k xs).map (.ints k) else none
  | .bool => if ty.size = 1 then (allBools xs).map .bools else none
  | _ => some (.recs ty.size xs)
def zeroDs : List C → Option (List D)
  | [] => some []
  | c :: r =>
    match frzD [] c, zeroDs r with
    | some (d, _, _), some ds => some (d :: ds)
    | _, _ => none
def mkZero (ty : Ty) (n : Nat) : Option D :=
  if ty.size = 0 ∨ ty.zero.length ≠ ty.size then none else
  match zeroDs ty.zero with
  | some ds => mkRow ty (List.replicate n ds)
  | none => none

/-! ### Steps -/
structure Step where
  vc : Prop
  val : LV
  upd : List (Nat × Obj)
  rd : List Nat
def pureS (vc : Prop) (c : C) : Step := ⟨vc, .v (.c c), [], []⟩
def verOf (H : Heap) (id : Nat) : Nat :=
  match getA id H with
  | some o => o.ver + 1
  | none => 0
def newBox (H : Heap) (id : Nat) (cs : List C) : Step := ⟨True, .v (.c (.ptr id (verOf H id) 0 0)), [(id, .box (verOf H id) cs)], [id]⟩
def newArr (H : Heap) (id : Nat) (vc : Prop) (fr : Bool) (d : D) (kills : List (Nat × Obj)) (rd : List Nat) : Step :=
  ⟨vc, .v (.c (.osl id (verOf H id) 0 d.len)), kills ++ [(id, .arr (verOf H id) fr d)], id :: rd⟩
def killL (H : Heap) (ks : List Nat) : List (Nat × Obj) := ks.map fun id => (id, .dead (verOf H id))
def noBad : C → Bool
  | .bad => false
  | _ => true
def okV : V → Bool
  | .c x => noBad x
  | .agg _ => true
def allB : List C → Option (List Bool)
  | [] => some []
  | .bool b :: r => (allB r).map (b :: ·)
  | _ => none
def setCs (cs : List C) (o : Nat) : List C → List C
  | [] => cs
  | c :: r => setCs (cs.set o c) (o + 1) r
def loadCs (ty : Ty) (cs : List C) : Option V :=
  if ty.k.agg then if cs.length = ty.size then some (.agg cs) else none
  else match cs with
    | [c] => some (.c c)
    | _ => none

def fieldsOf (tv : TV) (t : TypeId) (f : Nat) : Option (Nat × Ty) :=
  match tv t with
  | some ⟨.struct fs, _, _, _⟩ =>
    match fs[f]? with
    | some (off, ft) => (tv ft).map fun ty => (off, ty)
    | none => none
  | _ => none
def elemTy (tv : TV) (t : TypeId) : Option Ty :=
  match tv t with
  | some ⟨.slice e, _, _, _⟩ => tv e
  | _ => none
/-- A struct's cells, its parts laid in. -/
def fillCs (tv : TV) (t : TypeId) (cs : List C) : List (Nat × V) → Option (List C)
  | [] => some cs
  | (i, v) :: r =>
    match fieldsOf tv t i with
    | some (off, ty) => if okV v = true ∧ v.cells.length = ty.size ∧ off + ty.size ≤ cs.length then fillCs tv t (setCs cs off v.cells) r else none
    | none => none
/-- A literal's elements, in order and all given. -/
def litRows (H : Heap) (size : Nat) : Nat → List (Nat × V) → Option (List (List D) × Bool × List Nat)
  | _, [] => some ([], true, [])
  | n, (i, v) :: r =>
    if i = n ∧ v.cells.length = size ∧ okV v = true then
      match frzDs H v.cells, litRows H size (n + 1) r with
      | some (ds, f, k), some (xs, f', k') => some (ds :: xs, f && f', k ++ k')
      | _, _ => none
    else none

def rdOf : C → List Nat
  | .osl i _ _ _ => [i]
  | _ => []
def sliceC (H : Heap) (size : Nat) (x : C) (lo hi : Int) : Option Step :=
  match x with
  | .osl id ver off len =>
    match getA id H with
    | some (.arr ver' _ d) => if ver = ver' ∧ d.es = size then some ⟨0 ≤ lo ∧ lo ≤ hi ∧ hi ≤ len, .v (.c (.osl id ver (off + lo.toNat) (hi.toNat - lo.toNat))), [], [id]⟩ else none
    | _ => none
  | .dsl fr d => if d.es = size then some (pureS (0 ≤ lo ∧ lo ≤ hi ∧ hi ≤ d.len) (.dsl fr (d.cut lo.toNat (hi.toNat - lo.toNat)))) else none
  | .nil => some (pureS (lo = 0 ∧ hi = 0) .nil)
  | _ => none
def lenC : C → Option Int
  | .nil => some 0
  | .dsl _ d => some d.len
  | .osl _ _ _ len => some len
  | .str s => some s.size
  | _ => none
def capsOf (s : St) : List Operand → Option (List (Nat × Nat))
  | [] => some []
  | x :: r =>
    match s.evC x, capsOf s r with
    | .ptr id ver 0 0, some l => some ((id, ver) :: l)
    | _, _ => none
def strOfInts (l : List Int) : ByteArray := ⟨(l.map fun n => UInt8.ofNat n.toNat).toArray⟩
def nodupB : List Nat → Bool
  | [] => true
  | x :: r => !r.contains x && nodupB r

def appendS (H : Heap) (id8 : Nat) (ety : Ty) (x y : C) : Option Step :=
  match rowD H y with
  | none => none
  | some (e, fe) =>
    if e.es ≠ ety.size ∨ ety.bytes = 0 then none else
    match x with
    | .nil => some (newArr H id8 (e.len * ety.bytes ≤ 140737488355328) fe e [] (rdOf y))
    | .osl id ver 0 len =>
      match getA id H with
      | some (.arr ver' fd d) =>
        if ver = ver' then
          match D.app d e with
          | some d' => some ⟨len = d.len ∧ (len + e.len) * ety.bytes ≤ 140737488355328, .v (.c (.osl id (ver + 1) 0 (len + e.len))), [(id, .arr (ver + 1) (fd && fe) d')], id :: rdOf y⟩
          | none => none
        else none
      | _ => none
    | _ => none

/-! ### The operations, one by one -/
def pickLV (p : Bool) (x y : LV) : LV :=
  match x, y with
  | .v (.c (.bool a)), .v (.c (.bool b)) => .v (.c (.bool (if p then a else b)))
  | _, _ => if p then x else y
def actPick (c : C) (x y : LV) : Option Step :=
  match c with
  | .bool p => some ⟨True, pickLV p x y, [], []⟩
  | _ => none
def actBox (H : Heap) (id8 : Nat) (x : V) : Option Step := if okV x then some (newBox H id8 x.cells) else none
def actAlloc (H : Heap) (id8 : Nat) : Option Ty → Option Step
  | some ⟨.array _ _, _, _, z⟩ => (allB z).map fun l => ⟨True, .v (.c (.ptr id8 (verOf H id8) 0 0)), [(id8, .arr (verOf H id8) true (.bools l))], [id8]⟩
  | some ty => some (newBox H id8 ty.zero)
  | none => none
def actBuild (tv : TV) (t : TypeId) (parts : List (Nat × V)) : Option Step :=
  match tv t with
  | some ⟨.struct _, _, _, z⟩ => (fillCs tv t z parts).map fun cs => ⟨True, .v (.agg cs), [], []⟩
  | _ => none
def actBuildSlice (H : Heap) (id8 : Nat) (te : Option Ty) (len : Nat) (parts : List (Nat × V)) : Option Step :=
  match te with
  | some te =>
    if parts.length = len ∧ len * te.size ≤ 16777216 then
      match litRows H te.size 0 parts with
      | some (xs, fr, ks) => if nodupB (id8 :: ks) then (mkRow te xs).map fun d => newArr H id8 True fr d (killL H ks) ks else none
      | none => none
    else none
  | none => none
def actLoad (H : Heap) (ty : Option Ty) (p : C) : Option Step :=
  match ty with
  | none => none
  | some ty =>
    match p with
    | .ptr id ver j o =>
      match getA id H with
      | some (.box ver' cs) => if ver = ver' then (loadCs ty ((cs.drop o).take ty.size)).map fun v => ⟨True, .v v, [], [id]⟩ else none
      | some (.arr ver' fr d) => if ver = ver' then (loadCs ty ((((d.at_ j).drop o).take ty.size).map (ofD fr))).map fun v => ⟨j < d.len, .v v, [], [id]⟩ else none
      | _ => none
    | .dp fr ds => (loadCs ty ((ds.take ty.size).map (ofD fr))).map fun v => ⟨True, .v v, [], []⟩
    | _ => none
def storeArr (id ver o j : Nat) (fr : Bool) (d : D) : List C → Option Step
  | [c] =>
    match scalD c with
    | some e => (d.setAt j o e).map fun d' => ⟨j < d.len ∧ o < (d.at_ j).length, .v (.c .bad), [(id, .arr ver fr d')], [id]⟩
    | none => none
  | _ => none
def actStore (H : Heap) (ty : Option Ty) (p : C) (x : V) : Option Step :=
  match ty with
  | none => none
  | some ty =>
    match p with
    | .ptr id ver j o =>
      match getA id H with
      | some (.box ver' cs) =>
        if ver = ver' ∧ x.cells.length = ty.size ∧ o + ty.size ≤ cs.length ∧ x.cells.all noBad = true then
          some ⟨True, .v (.c .bad), [(id, .box ver' (setCs cs o x.cells))], [id]⟩
        else none
      | some (.arr ver' fr d) => if ver = ver' ∧ ty.size = 1 then storeArr id ver' o j fr d x.cells else none
      | _ => none
    | _ => none
def actNil : C → Option Step
  | .ptr id ver j o => some (pureS True (.ptr id ver j o))
  | .fn f cs => some (pureS True (.fn f cs))
  | _ => none
def actUn (op : UnOp) (x : C) : Option Step :=
  match op, x with
  | .not, .bool b => some (pureS True (.bool !b))
  | .neg, .int k n => some (pureS True (.int k (k.wrap (0 - n))))
  | _, _ => none
def convInt (dst : Option Ty) (x : C) : Option Step :=
  match dst, x with
  | some ⟨.int k, _, _, _⟩, .int _ n => some (pureS True (.int k (k.wrap n)))
  | _, _ => none
def convStr (H : Heap) (te : Option Ty) (x : C) : Option Step :=
  match te with
  | some ⟨.int .u8, _, _, _⟩ =>
    match rowD H x with
    | some (.ints .u8 l, _) => some ⟨∀ n ∈ l, 0 ≤ n ∧ n < 256, .v (.c (.str (strOfInts l))), [], rdOf x⟩
    | _ => none
  | _ => none
def actConv (tv : TV) (H : Heap) (src dst : TypeId) (x : C) : Option Step :=
  match tv src with
  | some ⟨.slice e, _, _, _⟩ =>
    match tv dst with
    | some ⟨.str, _, _, _⟩ => convStr H (tv e) x
    | _ => none
  | some _ => convInt (tv dst) x
  | none => none
def actMakeSlice (H : Heap) (id8 : Nat) (te : Option Ty) (l c : C) : Option Step :=
  match te, l, c with
  | some te, .int .i64 n, .int .i64 m => (mkZero te n.toNat).map fun d => newArr H id8 (0 ≤ n ∧ n ≤ m ∧ m * te.bytes ≤ 140737488355328 ∧ m ≤ 9223372036854775807) true d [] []
  | _, _, _ => none
def sliceRow (H : Heap) (te : Option Ty) (x : C) (lo hi mx : Option Int) : Option Step :=
  match te, lo, hi, mx with
  | some te, some l, some h, some m => (sliceC H te.size x l h).map fun st => { st with vc := st.vc ∧ m = h }
  | _, _, _, _ => none
def sliceStr (x : C) (lo hi : Option Int) (full : Bool) : Option Step :=
  match x, lo, hi with
  | .str b, some l, some h => if full then none else some (pureS (0 ≤ l ∧ l ≤ h ∧ h ≤ b.size) (.str (b.extract l.toNat h.toNat)))
  | _, _, _ => none
def actSlice (tv : TV) (H : Heap) (t : TypeId) (x : C) (lo hi mx : Option Int) (full noHi : Bool) : Option Step :=
  match tv t with
  | some ⟨.slice e, _, _, _⟩ => if full && noHi then none else sliceRow H (tv e) x lo hi mx
  | some ⟨.str, _, _, _⟩ => sliceStr x lo hi full
  | _ => none
def actFieldAddr (fl : Option (Nat × Ty)) (x : C) : Option Step :=
  match fl with
  | some (off, ty) =>
    if ty.size = 0 then none else
    match x with
    | .ptr id ver j o => some (pureS True (.ptr id ver j (o + off)))
    | .dp fr ds => some (pureS True (.dp fr (ds.drop off)))
    | _ => none
  | none => none
def actField (fl : Option (Nat × Ty)) (x : V) : Option Step :=
  match fl, x with
  | some (off, ty), .agg cs => (loadCs ty ((cs.drop off).take ty.size)).map fun v => ⟨True, .v v, [], []⟩
  | _, _ => none
def idxSlice (H : Heap) (te : Option Ty) (x : C) (n : Int) : Option Step :=
  match te with
  | none => none
  | some te =>
    match x with
    | .osl id ver off len =>
      match getA id H with
      | some (.arr ver' _ d) => if ver = ver' ∧ d.es = te.size then some ⟨0 ≤ n ∧ n < len, .v (.c (.ptr id ver (off + n.toNat) 0)), [], [id]⟩ else none
      | _ => none
    | .dsl fr d => if d.es = te.size then some (pureS (0 ≤ n ∧ n < d.len) (.dp fr (d.at_ n.toNat))) else none
    | _ => none
def idxArr (H : Heap) (te : Option Ty) (m : Nat) (x : C) (n : Int) : Option Step :=
  match te with
  | none => none
  | some te =>
    match x with
    | .ptr id ver 0 0 =>
      match getA id H with
      | some (.arr ver' _ d) => if ver = ver' ∧ d.es = te.size then some ⟨0 ≤ n ∧ n < m, .v (.c (.ptr id ver n.toNat 0)), [], [id]⟩ else none
      | _ => none
    | _ => none
def actIdxAddr (tv : TV) (H : Heap) (t : TypeId) (x i : C) : Option Step :=
  match i with
  | .int _ n =>
    match tv t with
    | some ⟨.slice e, _, _, _⟩ => idxSlice H (tv e) x n
    | some ⟨.array m e, _, _, _⟩ => idxArr H (tv e) m x n
    | _ => none
  | _ => none
def actIndex (ty : Option Ty) (x i : C) : Option Step :=
  match ty with
  | some ⟨.str, _, _, _⟩ =>
    match x, i with
    | .str b, .int _ n => some (pureS (0 ≤ n ∧ n < b.size) (.int .u8 ((b.data.getD n.toNat 0).toNat)))
    | _, _ => none
  | _ => none
def actExtract (x : LV) (i : Nat) : Option Step :=
  match x with
  | .tup vs => (vs[i]?).map fun v => ⟨True, .v v, [], []⟩
  | _ => none
def actLen (H : Heap) (ty : Option Ty) (x : C) : Option Step :=
  match ty with
  | some ⟨.slice _, _, _, _⟩ =>
    match x with
    | .nil => some (pureS True (.int .i64 0))
    | .dsl _ d => some (pureS True (.int .i64 d.len))
    | .osl id ver _ len =>
      match getA id H with
      | some (.arr ver' _ _) => if ver = ver' then some ⟨True, .v (.c (.int .i64 len)), [], [id]⟩ else none
      | _ => none
    | _ => none
  | some ⟨.str, _, _, _⟩ =>
    match x with
    | .str b => some (pureS True (.int .i64 b.size))
    | _ => none
  | _ => none
def actMax (mx : Bool) (x y : C) : Option Step :=
  match x, y with
  | .int k a, .int k' b => if k = k' then some (pureS True (.int k (if mx then (if b > a then b else a) else (if b < a then b else a)))) else none
  | _, _ => none
def actBuiltin (tv : TV) (s : St) (id8 : Nat) (b : Builtin) (ts : List TypeId) (xs : List C) : Option Step :=
  match b with
  | .len =>
    match ts, xs with
    | [t], [x] => actLen s.heap (tv t) x
    | _, _ => none
  | .max =>
    match xs with
    | [x, y] => actMax true x y
    | _ => none
  | .min =>
    match xs with
    | [x, y] => actMax false x y
    | _ => none
  | .append =>
    match ts, xs with
    | [t, t'], [x, y] => if t = t' then (elemTy tv t).bind fun te => appendS s.heap id8 te x y else none
    | _, _ => none
  | _ => none
def actCall (tv : TV) (s : St) (id8 : Nat) (c : Call) : Option Step :=
  match c.callee with
  | .builtin b => actBuiltin tv s id8 b c.argTypes.toList (c.args.toList.map s.evC)
  | _ => none
def actFunc (s : St) (fn : Fn) (first caps : List Operand) : Option Step :=
  match fn with
  | .func f => if first.length = 0 then (capsOf s caps).map fun l => pureS True (.fn f l) else none
  | _ => none
def evParts (s : St) (parts : Array (Nat × Operand)) : List (Nat × V) := parts.toList.map fun p => (p.1, s.evV p.2)
def defI (s : St) (d : Option Int) : Option Operand → Option Int
  | none => d
  | some x =>
    match s.evC x with
    | .int _ n => some n
    | _ => none
def act (tv : TV) (s : St) (id8 : Nat) : Op → Option Step
  | .move x => some ⟨True, s.ev x, [], []⟩
  | .assign x => some ⟨True, s.ev x, [], []⟩
  | .pick c x y => actPick (s.evC c) (s.ev x) (s.ev y)
  | .box _ x => actBox s.heap id8 (s.evV x)
  | .alloc t => actAlloc s.heap id8 (tv t)
  | .build t parts => actBuild tv t (evParts s parts)
  | .buildSlice t len parts => actBuildSlice s.heap id8 (elemTy tv t) len (evParts s parts)
  | .load t p => actLoad s.heap (tv t) (s.evC p)
  | .store t p x => actStore s.heap (tv t) (s.evC p) (s.evV x)
  | .nilCheck x => actNil (s.evC x)
  | .binOp op t x y _ => (binC tv op t (s.evC x) (s.evC y)).map fun r => pureS r.1 r.2
  | .unOp op _ x => actUn op (s.evC x)
  | .convert src dst x => actConv tv s.heap src dst (s.evC x)
  | .makeFunc fn first caps => actFunc s fn first.toList caps.toList
  | .makeSlice t l c => actMakeSlice s.heap id8 (elemTy tv t) (s.evC l) (s.evC c)
  | .slice t x lo hi mx => actSlice tv s.heap t (s.evC x) (defI s (some 0) lo) (defI s (lenC (s.evC x)) hi) (defI s (defI s (lenC (s.evC x)) hi) mx) mx.isSome hi.isNone
  | .fieldAddr t x f => actFieldAddr (fieldsOf tv t f) (s.evC x)
  | .field t x f => actField (fieldsOf tv t f) (s.evV x)
  | .indexAddr t x i => actIdxAddr tv s.heap t (s.evC x) (s.evC i)
  | .index t x i => actIndex (tv t) (s.evC x) (s.evC i)
  | .extract x i => actExtract (s.ev x) i
  | .call c => actCall tv s id8 c
  | _ => none
end Go.AM
