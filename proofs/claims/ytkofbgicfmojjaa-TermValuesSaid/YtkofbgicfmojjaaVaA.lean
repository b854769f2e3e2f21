/- The abstract interpreter: values without capacities, heap objects by number, one order of evaluation. Definitions only. -/
import Derived.Orders
import Derived.Defers
import Derived.Laws.AppendOwn
import Derived.Laws.StructEq
set_option linter.unusedSimpArgs false
set_option linter.unusedVariables false
set_option linter.unusedSectionVars false
namespace Go.Va

/-- Abstract values. 'dead': anything. 'ptr id off ver': a cell of object id, by its version ver (the number of cells when that version was made). 'sl id off len ver sz': elements from off on, each of sz cells. 'esl': a slice that is not nil, without room. -/
inductive AV where
  | dead
  | bool (b : Bool)
  | int (k : IntKind) (n : Int)
  | str (s : ByteArray)
  | nilp
  | ptr (id off ver : Nat)
  | nilsl
  | esl
  | sl (id off len ver sz : Nat)
  | nilm
  | map (id : Nat)
  | nilf
  | fn (f : FuncId) (cap : List AV)
  | agg (cs : List AV)
  | tup (cs : List AV)
  deriving Inhabited

mutual
def AV.same : AV → AV → Bool
  | .dead, .dead => true
  | .bool a, .bool b => a == b
  | .int j a, .int k b => j == k && a == b
  | .str a, .str b => a.data == b.data
  | .nilp, .nilp => true
  | .ptr a b c, .ptr d e f => a == d && b == e && c == f
  | .nilsl, .nilsl => true
  | .esl, .esl => true
  | .sl a b c d e, .sl a' b' c' d' e' => a == a' && b == b' && c == c' && d == d' && e == e'
  | .nilm, .nilm => true
  | .map a, .map b => a == b
  | .nilf, .nilf => true
  | .fn f xs, .fn g ys => f == g && AV.sames xs ys
  | .agg xs, .agg ys => AV.sames xs ys
  | .tup xs, .tup ys => AV.sames xs ys
  | _, _ => false
def AV.sames : List AV → List AV → Bool
  | [], [] => true
  | x :: xs, y :: ys => AV.same x y && AV.sames xs ys
  | _, _ => false
end

/-- A value that takes one cell for sure. -/
def AV.one : AV → Bool
  | .dead | .agg _ | .tup _ => false
  | _ => true

def AV.cells : AV → List AV
  | .agg cs => cs
  | v => [v]

/-- A value of the model that takes one cell, as an abstract one. -/
def ofV1 : Value → AV
  | .bool b => .bool b
  | .int k n => .int k n
  | .string s => .str s
  | .pointer none => .nilp
  | .slice none 0 0 => .nilsl
  | .map none => .nilm
  | .nilFunc => .nilf
  | _ => .dead
def ofV : Value → AV
  | .agg cs => .agg (cs.toList.map ofV1)
  | .tuple ⟨[]⟩ => .tup []
  | v => ofV1 v

/-- An object of the heap: cells (with the elements' type; versions below 'born' are gone; 'ro': nobody writes there), or a map. -/
inductive AObj where
  | cells (c : List AV) (e : TypeId) (born : Nat) (ro : Bool)
  | map (es : List (AV × AV))
  deriving Inhabited

abbrev Heap := List AObj
abbrev Env := List AV

/-- A program, and the struct types of whole numbers and bools that are compared. -/
structure Ctx where
  P : Program
  E : List (TypeId × List Bool)
  /-- Functions without arguments that come to true, whatever the world. -/
  T : List FuncId := []
/-- Which of a struct type's cells are whole numbers (the others are bools). -/
def Ctx.kinds (C : Ctx) (t : TypeId) : Option (List Bool) := (C.E.find? (·.1 == t)).map (·.2)

structure St where
  ρ : Env
  H : Heap
  D : List (FuncId × List AV)

inductive AExit where
  | normal
  | exit (id : Nat)
  | ret

def opnd (ρ : Env) : Operand → AV
  | .tmp t => ρ.getD t .dead
  | .const v => ofV v
  | .func f => .fn f []
  | .global _ => .dead

def putAll : List AV → Nat → List AV → List AV
  | c, _, [] => c
  | c, o, v :: vs => putAll (c.set o v) (o + 1) vs

def AV.isDead : AV → Bool
  | .dead => true
  | _ => false

def zeroA (P : Program) (t : TypeId) : Option AV := ((P.info? t).bind (·.zero)).bind fun x => if (ofV x).isDead then none else some (ofV x)

def zeros (z : List AV) (n : Nat) : List AV := (List.replicate n z).flatten

def loadA (P : Program) (t : TypeId) (H : Heap) (id off ver : Nat) : Option AV :=
  match H[id]?, P.info? t, P.underlying t with
  | some (.cells c _ born _), some i, some d =>
    if born ≤ ver ∧ ver ≤ c.length then
      match d with
      | .struct _ => if off + i.size ≤ ver then some (.agg ((c.drop off).take i.size)) else none
      | .array _ _ => if off + i.size ≤ ver then some (.agg ((c.drop off).take i.size)) else none
      | _ => if off < ver then c[off]? else none
    else none
  | _, _, _ => none

def storeA (P : Program) (t : TypeId) (H : Heap) (id off ver : Nat) (v : AV) : Option Heap :=
  match H[id]?, P.info? t with
  | some (.cells c e born ro), some i =>
    if ro = false ∧ ver = c.length ∧ born ≤ ver ∧ v.cells.length = i.size ∧ off + i.size ≤ ver ∧ v.cells.all AV.one then
      some (H.set id (.cells (putAll c off v.cells) e ver ro))
    else none
  | _, _ => none

/-- A part of a struct's or array's cells. -/
def partA (P : Program) (t : TypeId) (cs : List AV) (off : Nat) : Option AV :=
  match P.info? t, P.underlying t with
  | some i, some d =>
    match d with
    | .struct _ => some (.agg ((cs.drop off).take i.size))
    | .array _ _ => some (.agg ((cs.drop off).take i.size))
    | _ => cs[off]?
  | _, _ => none

def fillA (place : Nat → Option (Nat × Nat)) (cells : List AV) : List (Nat × AV) → Option (List AV)
  | [] => some cells
  | (i, v) :: rest =>
    match place i with
    | none => none
    | some (off, size) =>
      if v.isDead = true ∨ v.cells.length ≠ size ∨ off + v.cells.length > cells.length then none
      else fillA place (putAll cells off v.cells) rest

def buildA (P : Program) (t : TypeId) (parts : List (Nat × AV)) : Option AV :=
  match zeroA P t, P.underlying t with
  | some z, some (.struct fields) =>
    (fillA (fun i => (fields[i]?).bind fun f => (P.info? f.type).map fun j => (f.offset, j.size)) z.cells parts).bind fun cs =>
      if fields.all (fun f => (P.info? f.type).isSome) then some (.agg cs) else none
  | some z, some (.array _ elem) =>
    (P.info? elem).bind fun j => (fillA (fun i => some (i * j.size, j.size)) z.cells parts).map .agg
  | _, _ => none

def buildSliceA (P : Program) (t : TypeId) (len : Nat) (parts : List (Nat × AV)) (H : Heap) : Option (AV × Heap) :=
  match P.underlying t with
  | some (.slice elem) =>
    match P.info? elem, zeroA P elem with
    | some i, some z =>
      if len * i.size ≤ 2 ^ 24 ∧ z.cells.length = i.size ∧ 0 < i.size then
        (fillA (fun k => some (k * i.size, i.size)) (zeros z.cells len) parts).map fun cs =>
          (.sl H.length 0 len (len * i.size) i.size, H ++ [.cells cs elem 0 false])
      else none
    | _, _ => none
  | _ => none

/-- '==' of two rows of cells that are whole numbers (true) and bools (false). -/
def eqCells : List Bool → List AV → List AV → Option Bool
  | [], [], [] => some true
  | true :: ks, .int j a :: xs, .int k b :: ys => if j = k then (eqCells ks xs ys).map fun r => (a == b) && r else none
  | false :: ks, .bool a :: xs, .bool b :: ys => (eqCells ks xs ys).map fun r => (a == b) && r
  | _, _, _ => none

def eqA (C : Ctx) (t : TypeId) : AV → AV → Option Bool
  | .bool a, .bool b => (match C.P.underlying t with | some .bool => some (a == b) | _ => none)
  | .nilp, .nilp => (match C.P.underlying t with | some (.pointer _) => some true | _ => none)
  | .nilp, .ptr _ _ _ => (match C.P.underlying t with | some (.pointer _) => some false | _ => none)
  | .ptr _ _ _, .nilp => (match C.P.underlying t with | some (.pointer _) => some false | _ => none)
  | .nilsl, .nilsl => (match C.P.underlying t with | some (.slice _) => some true | _ => none)
  | .nilsl, .sl _ _ _ _ _ => (match C.P.underlying t with | some (.slice _) => some false | _ => none)
  | .sl _ _ _ _ _, .nilsl => (match C.P.underlying t with | some (.slice _) => some false | _ => none)
  | .nilsl, .esl => (match C.P.underlying t with | some (.slice _) => some false | _ => none)
  | .esl, .nilsl => (match C.P.underlying t with | some (.slice _) => some false | _ => none)
  | .nilm, .nilm => (match C.P.underlying t with | some (.map _ _) => some true | _ => none)
  | .nilm, .map _ => (match C.P.underlying t with | some (.map _ _) => some false | _ => none)
  | .map _, .nilm => (match C.P.underlying t with | some (.map _ _) => some false | _ => none)
  | .agg xs, .agg ys => (C.kinds t).bind fun ks => eqCells ks xs ys
  | _, _ => none

def binA (C : Ctx) (op : BinOp) (t : TypeId) (x y : AV) : Option AV :=
  match x, y with
  | .int k a, .int k' b =>
    match op with
    | .shl => if b < 0 then none else some (.int k (k.wrap (a * 2 ^ (min b.toNat k.bits))))
    | .shr => if b < 0 then none else some (.int k (a.fdiv (2 ^ (min b.toNat k.bits))))
    | .add => if k = k' then some (.int k (k.wrap (a + b))) else none
    | .sub => if k = k' then some (.int k (k.wrap (a - b))) else none
    | .mul => if k = k' then some (.int k (k.wrap (a * b))) else none
    | .quo => if k = k' ∧ b ≠ 0 then some (.int k (k.wrap (a.tdiv b))) else none
    | .rem => if k = k' ∧ b ≠ 0 then some (.int k (a.tmod b)) else none
    | .and => if k = k' then some (.int k (k.wrap ((BitVec.ofInt k.bits a &&& BitVec.ofInt k.bits b).toNat))) else none
    | .or => if k = k' then some (.int k (k.wrap ((BitVec.ofInt k.bits a ||| BitVec.ofInt k.bits b).toNat))) else none
    | .xor => if k = k' then some (.int k (k.wrap ((BitVec.ofInt k.bits a ^^^ BitVec.ofInt k.bits b).toNat))) else none
    | .andNot => if k = k' then some (.int k (k.wrap ((BitVec.ofInt k.bits a &&& ~~~(BitVec.ofInt k.bits b)).toNat))) else none
    | .eql => if k = k' then some (.bool (a == b)) else none
    | .neq => if k = k' then some (.bool (a != b)) else none
    | .lss => if k = k' then some (.bool (a < b)) else none
    | .leq => if k = k' then some (.bool (a ≤ b)) else none
    | .gtr => if k = k' then some (.bool (a > b)) else none
    | .geq => if k = k' then some (.bool (a ≥ b)) else none
  | x, y =>
    match op with
    | .eql => (eqA C t x y).map .bool
    | .neq => (eqA C t x y).map fun r => .bool (!r)
    | _ => none

def unA (op : UnOp) (x : AV) : Option AV :=
  match op, x with
  | .neg, .int k n => some (.int k (k.wrap (0 - n)))
  | .xor, .int k n => some (.int k (k.wrap ((BitVec.ofInt k.bits (if k.signed then -1 else k.max) ^^^ BitVec.ofInt k.bits n).toNat)))
  | .not, .bool b => some (.bool !b)
  | _, _ => none

def convA (P : Program) (src dst : TypeId) (x : AV) : Option AV :=
  match P.underlying src, P.underlying dst, x with
  | some (.int _), some (.int k), .int _ n => some (.int k (k.wrap n))
  | _, _, _ => none

def makeSliceA (P : Program) (t : TypeId) (len cap : AV) (H : Heap) : Option (AV × Heap) :=
  match P.underlying t, len, cap with
  | some (.slice elem), .int _ l, .int _ c =>
    match P.info? elem, zeroA P elem with
    | some i, some z =>
      if 0 ≤ l ∧ l ≤ c ∧ c ≤ 2 ^ 47 ∧ i.bytes * c ≤ 2 ^ 48 ∧ z.cells.length = i.size ∧ 0 < i.size then
        some (.sl H.length 0 l.toNat (c.toNat * i.size) i.size, H ++ [.cells (zeros z.cells c.toNat) elem 0 false])
      else none
    | _, _ => none
  | _, _, _ => none

/-- A bound of a slice expression: not given, or a whole number. -/
def boundA (d : Nat) : Option AV → Option Nat
  | none => some d
  | some (.int _ n) => if 0 ≤ n then some n.toNat else none
  | some _ => none

def sliceA (P : Program) (t : TypeId) (x : AV) (lo hi : Option AV) : Option AV :=
  match P.underlying t, x with
  | some (.slice elem), .sl id off len ver sz =>
    match boundA 0 lo, boundA len hi, P.info? elem with
    | some l, some h, some i => if l ≤ h ∧ h ≤ len ∧ i.size = sz then some (.sl id (off + l) (h - l) ver sz) else none
    | _, _, _ => none
  | some (.slice elem), .nilsl =>
    match boundA 0 lo, boundA 0 hi, P.info? elem with
    | some 0, some 0, some _ => some .nilsl
    | _, _, _ => none
  | some (.slice elem), .esl =>
    match boundA 0 lo, boundA 0 hi, P.info? elem with
    | some 0, some 0, some _ => some .esl
    | _, _, _ => none
  | _, _ => none

def fieldAddrA (P : Program) (s : TypeId) (x : AV) (f : Nat) : Option AV :=
  match P.underlying s, x with
  | some (.struct fields), .ptr id off ver =>
    match fields[f]? with
    | some fd =>
      match P.info? fd.type with
      | some i => if i.size ≠ 0 then some (.ptr id (off + fd.offset) ver) else none
      | none => none
    | none => none
  | _, _ => none

def fieldA (P : Program) (s : TypeId) (x : AV) (f : Nat) : Option AV :=
  match P.underlying s, x with
  | some (.struct fields), .agg cs => (fields[f]?).bind fun fd => partA P fd.type cs fd.offset
  | _, _ => none

def indexAddrA (P : Program) (t : TypeId) (x i : AV) : Option AV :=
  match P.underlying t, x, i with
  | some (.slice elem), .sl id off len ver sz, .int _ n =>
    match P.info? elem with
    | some j => if 0 ≤ n ∧ n < len ∧ j.size = sz then some (.ptr id ((off + n.toNat) * sz) ver) else none
    | none => none
  | some (.array len elem), .ptr id off ver, .int _ n =>
    match P.info? elem with
    | some j => if 0 ≤ n ∧ n < len then some (.ptr id (off + n.toNat * j.size) ver) else none
    | none => none
  | _, _, _ => none

def indexA (P : Program) (t : TypeId) (x i : AV) : Option AV :=
  match P.underlying t, x, i with
  | some (.array len elem), .agg cs, .int _ n =>
    match P.info? elem with
    | some j => if 0 ≤ n ∧ n < len then partA P elem cs (n.toNat * j.size) else none
    | none => none
  | some .string, .str s, .int _ n =>
    if 0 ≤ n then (match s[n.toNat]? with | some b => some (.int .u8 b.toNat) | none => none) else none
  | _, _, _ => none

/-- Two keys of a map: whole numbers of one kind, or structs of the context. -/
def keyEqA (C : Ctx) (t : TypeId) (x y : AV) : Option Bool :=
  match C.P.underlying t, x, y with
  | some (.int _), .int j a, .int k b => if j = k then some (a == b) else none
  | some (.struct _), .agg xs, .agg ys => (C.kinds t).bind fun ks => eqCells ks xs ys
  | _, _, _ => none

/-- Where a key stands among a map's entries ('some none': nowhere). -/
def findA (C : Ctx) (t : TypeId) (k : AV) : List (AV × AV) → Nat → Option (Option (Nat × AV))
  | [], _ => some none
  | e :: es, i =>
    match keyEqA C t k e.1 with
    | some true => some (some (i, e.2))
    | some false => findA C t k es (i + 1)
    | none => none

/-- A key may be asked for: of a kind that keyEqA knows. -/
def keyOkA (C : Ctx) (t : TypeId) (k : AV) : Bool := (keyEqA C t k k).isSome

def lookupA (C : Ctx) (t : TypeId) (x k : AV) (commaOk : Bool) (H : Heap) : Option AV :=
  match C.P.underlying t with
  | some (.map kt et) =>
    let es? : Option (List (AV × AV)) := match x with
      | .nilm => some []
      | .map id => (match H[id]? with | some (.map es) => some es | _ => none)
      | _ => none
    match es?, zeroA C.P et with
    | some es, some z =>
      if keyOkA C kt k then
        match findA C kt k es 0 with
        | some (some (_, v)) => some (if commaOk then .tup [v, .bool true] else v)
        | some none => some (if commaOk then .tup [z, .bool false] else z)
        | none => none
      else none
    | _, _ => none
  | _ => none

def mapUpdateA (C : Ctx) (t : TypeId) (x k v : AV) (H : Heap) : Option Heap :=
  match C.P.underlying t, x with
  | some (.map kt _), .map id =>
    match H[id]? with
    | some (.map es) =>
      if keyOkA C kt k then
        match findA C kt k es 0 with
        | some (some (i, _)) => some (H.set id (.map (es.set i (k, v))))
        | some none => some (H.set id (.map (es ++ [(k, v)])))
        | none => none
      else none
    | _ => none
  | _, _ => none

/-- The cells that a slice shows. -/
def slCells (H : Heap) : AV → Option (List AV)
  | .nilsl => some []
  | .esl => some []
  | .sl id off len ver sz =>
    match H[id]? with
    | some (.cells c _ born _) => if born ≤ ver ∧ ver ≤ c.length ∧ (off + len) * sz ≤ ver then some ((c.drop (off * sz)).take (len * sz)) else none
    | _ => none
  | _ => none

def slLen : AV → Nat
  | .sl _ _ len _ _ => len
  | _ => 0

def appendA (P : Program) (t u : TypeId) (s y : AV) (H : Heap) : Option (AV × Heap) :=
  match P.underlying t, P.underlying u with
  | some (.slice elem), some (.slice _) =>
    match P.info? elem, zeroA P elem, slCells H y with
    | some i, some z, some ys =>
      if z.cells.length = i.size ∧ 0 < i.size ∧ ys.length = slLen y * i.size ∧ ys.all AV.one ∧ (slLen s + slLen y) * i.bytes ≤ 140737488355328 ∧ slLen s + slLen y ≤ 140737488355328 then
        match s with
        | .nilsl => if slLen y = 0 then some (.nilsl, H) else some (.sl H.length 0 (slLen y) ys.length i.size, H ++ [.cells ys elem 0 false])
        | .esl => if slLen y = 0 then some (.esl, H) else some (.sl H.length 0 (slLen y) ys.length i.size, H ++ [.cells ys elem 0 false])
        | .sl id off len ver sz =>
          if slLen y = 0 then some (s, H)
          else match H[id]? with
            | some (.cells c e born ro) =>
              let p := len * i.size
              if ro = false ∧ off = 0 ∧ ver = c.length ∧ born ≤ ver ∧ e = elem ∧ sz = i.size ∧ p ≤ ver then
                if p + ys.length ≤ c.length then
                  some (.sl id 0 (len + slLen y) ver sz, H.set id (.cells (putAll c p ys) e ver ro))
                else
                  some (.sl id 0 (len + slLen y) (p + ys.length) sz, H.set id (.cells (c.take p ++ ys) e (if p = c.length then born else p + ys.length) ro))
              else none
            | _ => none
        | _ => none
      else none
    | _, _, _ => none
  | _, _ => none

def minA : AV → AV → Option AV
  | .int k x, .int _ y => some (.int k (if y < x then y else x))
  | _, _ => none
def maxA : AV → AV → Option AV
  | .int k x, .int _ y => some (.int k (if y > x then y else x))
  | _, _ => none

def lenA (P : Program) (t : TypeId) (x : AV) : Option AV :=
  match P.underlying t, x with
  | some (.slice _), .sl _ _ len _ _ => some (.int .i64 len)
  | some (.slice _), .nilsl => some (.int .i64 0)
  | some (.slice _), .esl => some (.int .i64 0)
  | some .string, .str s => some (.int .i64 s.size)
  | _, _ => none

def clearA (P : Program) (t : TypeId) (x : AV) (H : Heap) : Option Heap :=
  match P.underlying t, x with
  | some (.slice _), .nilsl => some H
  | some (.slice elem), .sl id off len ver sz =>
    match P.info? elem, zeroA P elem, H[id]? with
    | some i, some z, some (.cells c e born ro) =>
      if len = 0 then some H
      else if ro = false ∧ ver = c.length ∧ born ≤ ver ∧ i.size = sz ∧ z.cells.length = sz ∧ (off + len) * sz ≤ ver ∧ z.cells.all AV.one then
        some (H.set id (.cells (putAll c (off * sz) (zeros z.cells len)) e ver ro))
      else none
    | _, _, _ => none
  | _, _ => none

abbrev CallF := FuncId → List AV → Heap → Option (AV × Heap)

def builtinA (P : Program) (b : Builtin) (ts : Array TypeId) (args : List AV) (H : Heap) : Option (AV × Heap) :=
  match b, args with
  | .len, [x] => (ts[0]?).bind fun t => (lenA P t x).map (·, H)
  | .append, [s, y] => match ts[0]?, ts[1]? with
    | some t, some u => if ts.size = 2 ∧ u = t then appendA P t u s y H else none
    | _, _ => none
  | .min, [x, y] => (minA x y).map (·, H)
  | .max, [x, y] => (maxA x y).map (·, H)
  | .clear, [x] => (ts[0]?).bind fun t => (clearA P t x H).map (.tup [], ·)
  | _, _ => none

/-- One operation: what it puts into its slot, and the heap behind it. -/
def opA (C : Ctx) (call : CallF) (o : Oper) (ρ : Env) (H : Heap) : Option (AV × Heap) :=
  match o.op with
  | .move x => some (opnd ρ x, H)
  | .assign x => some (opnd ρ x, H)
  | .pick c a b => match opnd ρ c with
    | .bool t => some (if t then opnd ρ a else opnd ρ b, H)
    | _ => none
  | .alloc t => (zeroA C.P t).map fun z => (.ptr H.length 0 z.cells.length, H ++ [.cells z.cells t 0 false])
  | .box t x => match opnd ρ x with
    | .dead => none
    | v => some (.ptr H.length 0 v.cells.length, H ++ [.cells v.cells t 0 false])
  | .build t parts => (buildA C.P t (parts.toList.map fun p => (p.1, opnd ρ p.2))).map (·, H)
  | .buildSlice t len parts => buildSliceA C.P t len (parts.toList.map fun p => (p.1, opnd ρ p.2)) H
  | .insert t m k v => (mapUpdateA C t (opnd ρ m) (opnd ρ k) (opnd ρ v) H).map (.tup [], ·)
  | .load t a => match opnd ρ a with
    | .ptr id off ver => (loadA C.P t H id off ver).map (·, H)
    | _ => none
  | .store t a x => match opnd ρ a with
    | .ptr id off ver => (storeA C.P t H id off ver (opnd ρ x)).map (.tup [], ·)
    | _ => none
  | .nilCheck x => match opnd ρ x with
    | .ptr id off ver => some (.ptr id off ver, H)
    | .fn f c => some (.fn f c, H)
    | _ => none
  | .binOp op t x y _ => (binA C op t (opnd ρ x) (opnd ρ y)).map (·, H)
  | .unOp op _ x => (unA op (opnd ρ x)).map (·, H)
  | .convert s d x => (convA C.P s d (opnd ρ x)).map (·, H)
  | .makeFunc (.func f) first captured => if first.size = 0 then some (.fn f (captured.toList.map (opnd ρ)), H) else none
  | .makeMap _ none => some (.map H.length, H ++ [.map []])
  | .makeSlice t l c => makeSliceA C.P t (opnd ρ l) (opnd ρ c) H
  | .slice t x lo hi none => (sliceA C.P t (opnd ρ x) (lo.map (opnd ρ)) (hi.map (opnd ρ))).map (·, H)
  | .fieldAddr s x f => (fieldAddrA C.P s (opnd ρ x) f).map (·, H)
  | .field s x f => (fieldA C.P s (opnd ρ x) f).map (·, H)
  | .indexAddr t x i => (indexAddrA C.P t (opnd ρ x) (opnd ρ i)).map (·, H)
  | .index t x i => (indexA C.P t (opnd ρ x) (opnd ρ i)).map (·, H)
  | .lookup t x k ok => (lookupA C t (opnd ρ x) (opnd ρ k) ok H).map (·, H)
  | .mapUpdate t m k v => (mapUpdateA C t (opnd ρ m) (opnd ρ k) (opnd ρ v) H).map (.tup [], ·)
  | .extract t i => match opnd ρ t with
    | .tup vs => (vs[i]?).map (·, H)
    | _ => none
  | .call { callee := .builtin b, args, argTypes } => builtinA C.P b argTypes (args.toList.map (opnd ρ)) H
  | .call { callee := .value f, args, argTypes := _ } => match opnd ρ f with
    | .fn g cap => call g (args.toList.map (opnd ρ) ++ cap) H
    | _ => none
  | _ => none

/-- Is an operation wanted: 'none': not known. -/
def wantedA (ops : Array Oper) (o : Oper) (ρ : Env) : Option Bool :=
  match o.guard with
  | none => some true
  | some (j, want) =>
    match (ops[j]?).bind (·.dst) with
    | none => some false
    | some d =>
      match ρ.getD d .dead with
      | .bool b => some (b == want)
      | .dead => none
      | _ => some false

def putSlot (ρ : Env) (dst : Option Tmp) (v : AV) : Env :=
  match dst with
  | some d => ρ.set d v
  | none => ρ

/-- A deferred call of a function value. -/
def deferA (o : Oper) (ρ : Env) : Option (FuncId × List AV) :=
  match o.op with
  | .defer { callee := .value f, args, argTypes := _ } => match opnd ρ f with
    | .fn g cap => some (g, args.toList.map (opnd ρ) ++ cap)
    | _ => none
  | _ => none

def stepA (C : Ctx) (call : CallF) (ops : Array Oper) (o : Oper) (s : St) : Option St :=
  match wantedA ops o s.ρ with
  | none => none
  | some false => some { s with ρ := putSlot s.ρ o.dst (.tup []) }
  | some true =>
    match deferA o s.ρ with
    | some d => some { s with ρ := putSlot s.ρ o.dst (.tup []), D := d :: s.D }
    | none => (opA C call o s.ρ s.H).map fun r => { s with ρ := putSlot s.ρ o.dst r.1, H := r.2 }

def runOps (C : Ctx) (call : CallF) (ops : Array Oper) : List Oper → St → Option St
  | [], s => some s
  | o :: rest, s => match stepA C call ops o s with
    | some s' => runOps C call ops rest s'
    | none => none

/-- The states ahead of each operation, and behind the last. -/
def runStates (C : Ctx) (call : CallF) (ops : Array Oper) : List Oper → St → Option (List St)
  | [], s => some [s]
  | o :: rest, s => match stepA C call ops o s with
    | some s' => (runStates C call ops rest s').map (s :: ·)
    | none => none

/-- May change the heap. -/
def heavy (o : Oper) : Bool :=
  match o.op with
  | .alloc _ | .box _ _ | .buildSlice _ _ _ | .insert _ _ _ _ | .store _ _ _ | .makeMap _ _ | .makeSlice _ _ _ | .mapUpdate _ _ _ _ | .defer _ => true
  | .call { callee := .builtin b, .. } => (match b with | .len | .min | .max => false | _ => true)
  | .call _ => true
  | _ => false
/-- Looks at the heap, and leaves it. -/
def reads (o : Oper) : Bool :=
  match o.op with
  | .load _ _ | .lookup _ _ _ _ => true
  | _ => false
def floats (o : Oper) : Bool :=
  match o.op with
  | .alloc _ => o.guard.isNone
  | _ => false
def defers (o : Oper) : Bool :=
  match o.op with
  | .defer _ => true
  | _ => false
def selects (o : Oper) : Bool :=
  match o.op with
  | .select _ _ => true
  | _ => false

/-- i is ahead of j in every order. -/
def ahead (ops : Array Oper) (i j : Nat) : Bool := ((Region.before ops).getD j 0).testBit i

/-- Whatever the order: slots are met in order, and so is what changes the heap, but for new variables behind it. -/
def orderOk (ops : Array Oper) : Bool :=
  ((List.range ops.size).all fun j => match ops[j]? with
    | some y => y.after.all fun e => !Region.binds .any e || decide (e.on < j)
    | none => false) &&
  (List.range ops.size).all fun j => (List.range j).all fun i =>
    match ops[i]?, ops[j]? with
    | some x, some y => ahead ops i j || ((x.apart ops y) && !(heavy x && heavy y && !floats y))
    | _, _ => false

/-- The looks at the heap, and what changes it, that no order is told of. -/
def loose (ops : Array Oper) : List (Nat × Nat) :=
  (List.range ops.size).flatMap fun i => (List.range ops.size).filterMap fun k =>
    match ops[i]?, ops[k]? with
    | some x, some y => if reads x && heavy y && !ahead ops i k && !ahead ops k i then some (i, k) else none
    | _, _ => none

/-- What look i finds is the same on both sides of the change k. -/
def looseOk (C : Ctx) (call : CallF) (ops : Array Oper) (L : List St) (p : Nat × Nat) : Bool :=
  match ops[p.1]?, L[p.1]?, L[if p.2 < p.1 then p.2 else p.2 + 1]? with
  | some o, some s, some u =>
    (match wantedA ops o s.ρ with
    | some true => (opA C call o s.ρ s.H).any fun a => (opA C call o s.ρ u.H).any fun b => a.1.same b.1
    | _ => true)
  | _, _, _ => false

def drawA (C : Ctx) (call : CallF) (ops : Array Oper) (s : St) : Option St :=
  if orderOk ops && !(ops.any defers) && !(ops.any selects) then
    match runStates C call ops ops.toList s with
    | some L => if (loose ops).all (looseOk C call ops L) then L[ops.size]? else none
    | none => none
  else none

def iterA (body : St → Option (AExit × St)) : Nat → St → Option (AExit × St)
  | 0, _ => none
  | k + 1, s =>
    match body s with
    | some (.normal, s') => iterA body k s'
    | r => r

def exec (C : Ctx) (call : CallF) (k : Nat) : Code → St → Option (AExit × St)
  | .skip, s => some (.normal, s)
  | .region _ ops draw, s => (if draw then drawA C call ops s else runOps C call ops ops.toList s).map (AExit.normal, ·)
  | .seq a b, s =>
    match exec C call k a s with
    | some (.normal, s') => exec C call k b s'
    | r => r
  | .cond c a b, s =>
    match opnd s.ρ c with
    | .bool true => exec C call k a s
    | .bool false => exec C call k b s
    | _ => none
  | .block id c, s =>
    match exec C call k c s with
    | some (.exit j, s') => if j = id then some (.normal, s') else some (.exit j, s')
    | r => r
  | .loop c, s => iterA (exec C call k c) k s
  | .exit id, s => some (.exit id, s)
  | .ret, s => some (.ret, s)
  | _, _ => none

/-- The deferred calls, the last one first. -/
def leaveA (dcall : FuncId → List AV → Heap → Option Heap) : List (FuncId × List AV) → Heap → Option Heap
  | [], H => some H
  | d :: ds, H => match dcall d.1 d.2 H with
    | some H' => leaveA dcall ds H'
    | none => none

def resultA (P : Program) (ρ : Env) (H : Heap) : ResultVar → Option AV
  | .tmp t => some (ρ.getD t .dead)
  | .cell a t => match ρ.getD a .dead with
    | .ptr id off ver => loadA P t H id off ver
    | _ => none

def resultsA (P : Program) (ρ : Env) (H : Heap) (rs : List ResultVar) : Option AV :=
  match rs with
  | [r] => resultA P ρ H r
  | rs => (rs.mapM (resultA P ρ H)).map .tup

def enterA (n : Nat) (args : List AV) : Env := args ++ List.replicate (n - args.length) (.tup [])

/-- A function's body, run to its end. -/
def runF (C : Ctx) (call : CallF) (n : Nat) (f : FuncId) (args : List AV) (H : Heap) : Option (Func × St) :=
  match C.P.funcs[f]? with
  | some fn =>
    match fn.body with
    | some c =>
      if fn.name = "runtime.NumGoroutine" then none
      else match exec C call n c ⟨enterA fn.ntmps args, H, []⟩ with
      | some (.normal, s) => some (fn, s)
      | some (.ret, s) => some (fn, s)
      | _ => none
    | none => none
  | none => none

/-- A deferred call, of a function that defers nothing. -/
def dcallA (C : Ctx) (call : CallF) (n : Nat) (f : FuncId) (args : List AV) (H : Heap) : Option Heap :=
  match runF C call n f args H with
  | some (fn, s) => if s.D.isEmpty then (resultsA C.P s.ρ s.H fn.results.toList).map fun _ => s.H else none
  | none => none

def callA (C : Ctx) : Nat → CallF
  | 0, _, _, _ => none
  | n + 1, f, args, H =>
    if (C.T.contains f && args.isEmpty) = true then some (.bool true, H) else
    match runF C (callA C n) n f args H with
    | some (fn, s) => (leaveA (dcallA C (callA C n) n) s.D s.H).bind fun H' => (resultsA C.P s.ρ H' fn.results.toList).map (·, H')
    | none => none

end Go.Va
