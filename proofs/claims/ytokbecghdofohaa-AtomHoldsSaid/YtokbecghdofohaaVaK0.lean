/- Part 0 of the proof: A B C D E F G I J K. -/
import Derived.Orders
import Derived.Defers
import Derived.Laws.AppendOwn
import Derived.Laws.StructEq
section
set_option linter.unusedSimpArgs false
set_option linter.unusedVariables false
set_option linter.unusedSectionVars false
namespace Go.Va

/-- Abstract values. 'dead': anything. 'ptr id off ver': a cell of object id, by its version ver (the number of cells when that version was made). 'sl id off len ver sz': elements from off on, each of sz cells. 'esl': a slice that is not nil, without room. -/
inductive AV where
  | dead
  | bool (b : Bool)
  | int (k : IntKind) (n : Int)
  | str (s : ByteArray)
  | nilp
  | ptr (id off ver : Nat)
  | nilsl
  | esl
  | sl (id off len ver sz : Nat)
  | nilm
  | map (id : Nat)
  | nilf
  | fn (f : FuncId) (cap : List AV)
  | agg (cs : List AV)
  | tup (cs : List AV)
  deriving Inhabited

mutual
def AV.same : AV → AV → Bool
  | .dead, .dead => true
  | .bool a, .bool b => a == b
  | .int j a, .int k b => j == k && a == b
  | .str a, .str b => a.data == b.data
  | .nilp, .nilp => true
  | .ptr a b c, .ptr d e f => a == d && b == e && c == f
  | .nilsl, .nilsl => true
  | .esl, .esl => true
  | .sl a b c d e, .sl a' b' c' d' e' => a == a' && b == b' && c == c' && d == d' && e == e'
  | .nilm, .nilm => true
  | .map a, .map b => a == b
  | .nilf, .nilf => true
  | .fn f xs, .fn g ys => f == g && AV.sames xs ys
  | .agg xs, .agg ys => AV.sames xs ys
  | .tup xs, .tup ys => AV.sames xs ys
  | _, _ => false
def AV.sames : List AV → List AV → Bool
  | [], [] => true
  | x :: xs, y :: ys => AV.same x y && AV.sames xs ys
  | _, _ => false
end

/-- A value that takes one cell for sure. -/
def AV.one : AV → Bool
  | .dead | .agg _ | .tup _ => false
  | _ => true

def AV.cells : AV → List AV
  | .agg cs => cs
  | v => [v]

/-- A value of the model that takes one cell, as an abstract one. -/
def ofV1 : Value → AV
  | .bool b => .bool b
  | .int k n => .int k n
  | .string s => .str s
  | .pointer none => .nilp
  | .slice none 0 0 => .nilsl
  | .map none => .nilm
  | .nilFunc => .nilf
  | _ => .dead
def ofV : Value → AV
  | .agg cs => .agg (cs.toList.map ofV1)
  | .tuple ⟨[]⟩ => .tup []
  | v => ofV1 v

/-- An object of the heap: cells (with the elements' type; versions below 'born' are gone; 'ro': nobody writes there), or a map. -/
inductive AObj where
  | cells (c : List AV) (e : TypeId) (born : Nat) (ro : Bool)
  | map (es : List (AV × AV))
  deriving Inhabited

abbrev Heap := List AObj
abbrev Env := List AV

/-- A program, and the struct types of whole numbers and bools that are compared. -/
structure Ctx where
  P : Program
  E : List (TypeId × List Bool)
  /-- Functions without arguments that come to true, whatever the world. -/
  T : List FuncId := []
/-- Which of a struct type's cells are whole numbers (the others are bools). -/
def Ctx.kinds (C : Ctx) (t : TypeId) : Option (List Bool) := (C.E.find? (·.1 == t)).map (·.2)

structure St where
  ρ : Env
  H : Heap
  D : List (FuncId × List AV)

inductive AExit where
  | normal
  | exit (id : Nat)
  | ret

def opnd (ρ : Env) : Operand → AV
  | .tmp t => ρ.getD t .dead
  | .const v => ofV v
  | .func f => .fn f []
  | .global _ => .dead

def putAll : List AV → Nat → List AV → List AV
  | c, _, [] => c
  | c, o, v :: vs => putAll (c.set o v) (o + 1) vs

def AV.isDead : AV → Bool
  | .dead => true
  | _ => false

def zeroA (P : Program) (t : TypeId) : Option AV := ((P.info? t).bind (·.zero)).bind fun x => if (ofV x).isDead then none else some (ofV x)

def zeros (z : List AV) (n : Nat) : List AV := (List.replicate n z).flatten

def loadA (P : Program) (t : TypeId) (H : Heap) (id off ver : Nat) : Option AV :=
  match H[id]?, P.info? t, P.underlying t with
  | some (.cells c _ born _), some i, some d =>
    if born ≤ ver ∧ ver ≤ c.length then
      match d with
      | .struct _ => if off + i.size ≤ ver then some (.agg ((c.drop off).take i.size)) else none
      | .array _ _ => if off + i.size ≤ ver then some (.agg ((c.drop off).take i.size)) else none
      | _ => if off < ver then c[off]? else none
    else none
  | _, _, _ => none

def storeA (P : Program) (t : TypeId) (H : Heap) (id off ver : Nat) (v : AV) : Option Heap :=
  match H[id]?, P.info? t with
  | some (.cells c e born ro), some i =>
    if ro = false ∧ ver = c.length ∧ born ≤ ver ∧ v.cells.length = i.size ∧ off + i.size ≤ ver ∧ v.cells.all AV.one then
      some (H.set id (.cells (putAll c off v.cells) e ver ro))
    else none
  | _, _ => none

/-- A part of a struct's or array's cells. -/
def partA (P : Program) (t : TypeId) (cs : List AV) (off : Nat) : Option AV :=
  match P.info? t, P.underlying t with
  | some i, some d =>
    match d with
    | .struct _ => some (.agg ((cs.drop off).take i.size))
    | .array _ _ => some (.agg ((cs.drop off).take i.size))
    | _ => cs[off]?
  | _, _ => none

def fillA (place : Nat → Option (Nat × Nat)) (cells : List AV) : List (Nat × AV) → Option (List AV)
  | [] => some cells
  | (i, v) :: rest =>
    match place i with
    | none => none
    | some (off, size) =>
      if v.isDead = true ∨ v.cells.length ≠ size ∨ off + v.cells.length > cells.length then none
      else fillA place (putAll cells off v.cells) rest

def buildA (P : Program) (t : TypeId) (parts : List (Nat × AV)) : Option AV :=
  match zeroA P t, P.underlying t with
  | some z, some (.struct fields) =>
    (fillA (fun i => (fields[i]?).bind fun f => (P.info? f.type).map fun j => (f.offset, j.size)) z.cells parts).bind fun cs =>
      if fields.all (fun f => (P.info? f.type).isSome) then some (.agg cs) else none
  | some z, some (.array _ elem) =>
    (P.info? elem).bind fun j => (fillA (fun i => some (i * j.size, j.size)) z.cells parts).map .agg
  | _, _ => none

def buildSliceA (P : Program) (t : TypeId) (len : Nat) (parts : List (Nat × AV)) (H : Heap) : Option (AV × Heap) :=
  match P.underlying t with
  | some (.slice elem) =>
    match P.info? elem, zeroA P elem with
    | some i, some z =>
      if len * i.size ≤ 2 ^ 24 ∧ z.cells.length = i.size ∧ 0 < i.size then
        (fillA (fun k => some (k * i.size, i.size)) (zeros z.cells len) parts).map fun cs =>
          (.sl H.length 0 len (len * i.size) i.size, H ++ [.cells cs elem 0 false])
      else none
    | _, _ => none
  | _ => none

/-- '==' of two rows of cells that are whole numbers (true) and bools (false). -/
def eqCells : List Bool → List AV → List AV → Option Bool
  | [], [], [] => some true
  | true :: ks, .int j a :: xs, .int k b :: ys => if j = k then (eqCells ks xs ys).map fun r => (a == b) && r else none
  | false :: ks, .bool a :: xs, .bool b :: ys => (eqCells ks xs ys).map fun r => (a == b) && r
  | _, _, _ => none

def eqA (C : Ctx) (t : TypeId) : AV → AV → Option Bool
  | .bool a, .bool b => (match C.P.underlying t with | some .bool => some (a == b) | _ => none)
  | .nilp, .nilp => (match C.P.underlying t with | some (.pointer _) => some true | _ => none)
  | .nilp, .ptr _ _ _ => (match C.P.underlying t with | some (.pointer _) => some false | _ => none)
  | .ptr _ _ _, .nilp => (match C.P.underlying t with | some (.pointer _) => some false | _ => none)
  | .nilsl, .nilsl => (match C.P.underlying t with | some (.slice _) => some true | _ => none)
  | .nilsl, .sl _ _ _ _ _ => (match C.P.underlying t with | some (.slice _) => some false | _ => none)
  | .sl _ _ _ _ _, .nilsl => (match C.P.underlying t with | some (.slice _) => some false | _ => none)
  | .nilsl, .esl => (match C.P.underlying t with | some (.slice _) => some false | _ => none)
  | .esl, .nilsl => (match C.P.underlying t with | some (.slice _) => some false | _ => none)
  | .nilm, .nilm => (match C.P.underlying t with | some (.map _ _) => some true | _ => none)
  | .nilm, .map _ => (match C.P.underlying t with | some (.map _ _) => some false | _ => none)
  | .map _, .nilm => (match C.P.underlying t with | some (.map _ _) => some false | _ => none)
  | .agg xs, .agg ys => (C.kinds t).bind fun ks => eqCells ks xs ys
  | _, _ => none

def binA (C : Ctx) (op : BinOp) (t : TypeId) (x y : AV) : Option AV :=
  match x, y with
  | .int k a, .int k' b =>
    match op with
    | .shl => if b < 0 then none else some (.int k (k.wrap (a * 2 ^ (min b.toNat k.bits))))
    | .shr => if b < 0 then none else some (.int k (a.fdiv (2 ^ (min b.toNat k.bits))))
    | .add => if k = k' then some (.int k (k.wrap (a + b))) else none
    | .sub => if k = k' then some (.int k (k.wrap (a - b))) else none
    | .mul => if k = k' then some (.int k (k.wrap (a * b))) else none
    | .quo => if k = k' ∧ b ≠ 0 then some (.int k (k.wrap (a.tdiv b))) else none
    | .rem => if k = k' ∧ b ≠ 0 then some (.int k (a.tmod b)) else none
    | .and => if k = k' then some (.int k (k.wrap ((BitVec.ofInt k.bits a &&& BitVec.ofInt k.bits b).toNat))) else none
    | .or => if k = k' then some (.int k (k.wrap ((BitVec.ofInt k.bits a ||| BitVec.ofInt k.bits b).toNat))) else none
    | .xor => if k = k' then some (.int k (k.wrap ((BitVec.ofInt k.bits a ^^^ BitVec.ofInt k.bits b).toNat))) else none
    | .andNot => if k = k' then some (.int k (k.wrap ((BitVec.ofInt k.bits a &&& ~~~(BitVec.ofInt k.bits b)).toNat))) else none
    | .eql => if k = k' then some (.bool (a == b)) else none
    | .neq => if k = k' then some (.bool (a != b)) else none
    | .lss => if k = k' then some (.bool (a < b)) else none
    | .leq => if k = k' then some (.bool (a ≤ b)) else none
    | .gtr => if k = k' then some (.bool (a > b)) else none
    | .geq => if k = k' then some (.bool (a ≥ b)) else none
  | x, y =>
    match op with
    | .eql => (eqA C t x y).map .bool
    | .neq => (eqA C t x y).map fun r => .bool (!r)
    | _ => none

def unA (op : UnOp) (x : AV) : Option AV :=
  match op, x with
  | .neg, .int k n => some (.int k (k.wrap (0 - n)))
  | .xor, .int k n => some (.int k (k.wrap ((BitVec.ofInt k.bits (if k.signed then -1 else k.max) ^^^ BitVec.ofInt k.bits n).toNat)))
  | .not, .bool b => some (.bool !b)
  | _, _ => none

def convA (P : Program) (src dst : TypeId) (x : AV) : Option AV :=
  match P.underlying src, P.underlying dst, x with
  | some (.int _), some (.int k), .int _ n => some (.int k (k.wrap n))
  | _, _, _ => none

def makeSliceA (P : Program) (t : TypeId) (len cap : AV) (H : Heap) : Option (AV × Heap) :=
  match P.underlying t, len, cap with
  | some (.slice elem), .int _ l, .int _ c =>
    match P.info? elem, zeroA P elem with
    | some i, some z =>
      if 0 ≤ l ∧ l ≤ c ∧ c ≤ 2 ^ 47 ∧ i.bytes * c ≤ 2 ^ 48 ∧ z.cells.length = i.size ∧ 0 < i.size then
        some (.sl H.length 0 l.toNat (c.toNat * i.size) i.size, H ++ [.cells (zeros z.cells c.toNat) elem 0 false])
      else none
    | _, _ => none
  | _, _, _ => none

/-- A bound of a slice expression: not given, or a whole number. -/
def boundA (d : Nat) : Option AV → Option Nat
  | none => some d
  | some (.int _ n) => if 0 ≤ n then some n.toNat else none
  | some _ => none

def sliceA (P : Program) (t : TypeId) (x : AV) (lo hi : Option AV) : Option AV :=
  match P.underlying t, x with
  | some (.slice elem), .sl id off len ver sz =>
    match boundA 0 lo, boundA len hi, P.info? elem with
    | some l, some h, some i => if l ≤ h ∧ h ≤ len ∧ i.size = sz then some (.sl id (off + l) (h - l) ver sz) else none
    | _, _, _ => none
  | some (.slice elem), .nilsl =>
    match boundA 0 lo, boundA 0 hi, P.info? elem with
    | some 0, some 0, some _ => some .nilsl
    | _, _, _ => none
  | some (.slice elem), .esl =>
    match boundA 0 lo, boundA 0 hi, P.info? elem with
    | some 0, some 0, some _ => some .esl
    | _, _, _ => none
  | _, _ => none

def fieldAddrA (P : Program) (s : TypeId) (x : AV) (f : Nat) : Option AV :=
  match P.underlying s, x with
  | some (.struct fields), .ptr id off ver =>
    match fields[f]? with
    | some fd =>
      match P.info? fd.type with
      | some i => if i.size ≠ 0 then some (.ptr id (off + fd.offset) ver) else none
      | none => none
    | none => none
  | _, _ => none

def fieldA (P : Program) (s : TypeId) (x : AV) (f : Nat) : Option AV :=
  match P.underlying s, x with
  | some (.struct fields), .agg cs => (fields[f]?).bind fun fd => partA P fd.type cs fd.offset
  | _, _ => none

def indexAddrA (P : Program) (t : TypeId) (x i : AV) : Option AV :=
  match P.underlying t, x, i with
  | some (.slice elem), .sl id off len ver sz, .int _ n =>
    match P.info? elem with
    | some j => if 0 ≤ n ∧ n < len ∧ j.size = sz then some (.ptr id ((off + n.toNat) * sz) ver) else none
    | none => none
  | some (.array len elem), .ptr id off ver, .int _ n =>
    match P.info? elem with
    | some j => if 0 ≤ n ∧ n < len then some (.ptr id (off + n.toNat * j.size) ver) else none
    | none => none
  | _, _, _ => none

def indexA (P : Program) (t : TypeId) (x i : AV) : Option AV :=
  match P.underlying t, x, i with
  | some (.array len elem), .agg cs, .int _ n =>
    match P.info? elem with
    | some j => if 0 ≤ n ∧ n < len then partA P elem cs (n.toNat * j.size) else none
    | none => none
  | some .string, .str s, .int _ n =>
    if 0 ≤ n then (match s[n.toNat]? with | some b => some (.int .u8 b.toNat) | none => none) else none
  | _, _, _ => none

/-- Two keys of a map: whole numbers of one kind, or structs of the context. -/
def keyEqA (C : Ctx) (t : TypeId) (x y : AV) : Option Bool :=
  match C.P.underlying t, x, y with
  | some (.int _), .int j a, .int k b => if j = k then some (a == b) else none
  | some (.struct _), .agg xs, .agg ys => (C.kinds t).bind fun ks => eqCells ks xs ys
  | _, _, _ => none

/-- Where a key stands among a map's entries ('some none': nowhere). -/
def findA (C : Ctx) (t : TypeId) (k : AV) : List (AV × AV) → Nat → Option (Option (Nat × AV))
  | [], _ => some none
  | e :: es, i =>
    match keyEqA C t k e.1 with
    | some true => some (some (i, e.2))
    | some false => findA C t k es (i + 1)
    | none => none

/-- A key may be asked for: of a kind that keyEqA knows. -/
def keyOkA (C : Ctx) (t : TypeId) (k : AV) : Bool := (keyEqA C t k k).isSome

def lookupA (C : Ctx) (t : TypeId) (x k : AV) (commaOk : Bool) (H : Heap) : Option AV :=
  match C.P.underlying t with
  | some (.map kt et) =>
    let es? : Option (List (AV × AV)) := match x with
      | .nilm => some []
      | .map id => (match H[id]? with | some (.map es) => some es | _ => none)
      | _ => none
    match es?, zeroA C.P et with
    | some es, some z =>
      if keyOkA C kt k then
        match findA C kt k es 0 with
        | some (some (_, v)) => some (if commaOk then .tup [v, .bool true] else v)
        | some none => some (if commaOk then .tup [z, .bool false] else z)
        | none => none
      else none
    | _, _ => none
  | _ => none

def mapUpdateA (C : Ctx) (t : TypeId) (x k v : AV) (H : Heap) : Option Heap :=
  match C.P.underlying t, x with
  | some (.map kt _), .map id =>
    match H[id]? with
    | some (.map es) =>
      if keyOkA C kt k then
        match findA C kt k es 0 with
        | some (some (i, _)) => some (H.set id (.map (es.set i (k, v))))
        | some none => some (H.set id (.map (es ++ [(k, v)])))
        | none => none
      else none
    | _ => none
  | _, _ => none

/-- The cells that a slice shows. -/
def slCells (H : Heap) : AV → Option (List AV)
  | .nilsl => some []
  | .esl => some []
  | .sl id off len ver sz =>
    match H[id]? with
    | some (.cells c _ born _) => if born ≤ ver ∧ ver ≤ c.length ∧ (off + len) * sz ≤ ver then some ((c.drop (off * sz)).take (len * sz)) else none
    | _ => none
  | _ => none

def slLen : AV → Nat
  | .sl _ _ len _ _ => len
  | _ => 0

def appendA (P : Program) (t u : TypeId) (s y : AV) (H : Heap) : Option (AV × Heap) :=
  match P.underlying t, P.underlying u with
  | some (.slice elem), some (.slice _) =>
    match P.info? elem, zeroA P elem, slCells H y with
    | some i, some z, some ys =>
      if z.cells.length = i.size ∧ 0 < i.size ∧ ys.length = slLen y * i.size ∧ ys.all AV.one ∧ (slLen s + slLen y) * i.bytes ≤ 140737488355328 ∧ slLen s + slLen y ≤ 140737488355328 then
        match s with
        | .nilsl => if slLen y = 0 then some (.nilsl, H) else some (.sl H.length 0 (slLen y) ys.length i.size, H ++ [.cells ys elem 0 false])
        | .esl => if slLen y = 0 then some (.esl, H) else some (.sl H.length 0 (slLen y) ys.length i.size, H ++ [.cells ys elem 0 false])
        | .sl id off len ver sz =>
          if slLen y = 0 then some (s, H)
          else match H[id]? with
            | some (.cells c e born ro) =>
              let p := len * i.size
              if ro = false ∧ off = 0 ∧ ver = c.length ∧ born ≤ ver ∧ e = elem ∧ sz = i.size ∧ p ≤ ver then
                if p + ys.length ≤ c.length then
                  some (.sl id 0 (len + slLen y) ver sz, H.set id (.cells (putAll c p ys) e ver ro))
                else
                  some (.sl id 0 (len + slLen y) (p + ys.length) sz, H.set id (.cells (c.take p ++ ys) e (if p = c.length then born else p + ys.length) ro))
              else none
            | _ => none
        | _ => none
      else none
    | _, _, _ => none
  | _, _ => none

def minA : AV → AV → Option AV
  | .int k x, .int _ y => some (.int k (if y < x then y else x))
  | _, _ => none
def maxA : AV → AV → Option AV
  | .int k x, .int _ y => some (.int k (if y > x then y else x))
  | _, _ => none

def lenA (P : Program) (t : TypeId) (x : AV) : Option AV :=
  match P.underlying t, x with
  | some (.slice _), .sl _ _ len _ _ => some (.int .i64 len)
  | some (.slice _), .nilsl => some (.int .i64 0)
  | some (.slice _), .esl => some (.int .i64 0)
  | some .string, .str s => some (.int .i64 s.size)
  | _, _ => none

def clearA (P : Program) (t : TypeId) (x : AV) (H : Heap) : Option Heap :=
  match P.underlying t, x with
  | some (.slice _), .nilsl => some H
  | some (.slice elem), .sl id off len ver sz =>
    match P.info? elem, zeroA P elem, H[id]? with
    | some i, some z, some (.cells c e born ro) =>
      if len = 0 then some H
      else if ro = false ∧ ver = c.length ∧ born ≤ ver ∧ i.size = sz ∧ z.cells.length = sz ∧ (off + len) * sz ≤ ver ∧ z.cells.all AV.one then
        some (H.set id (.cells (putAll c (off * sz) (zeros z.cells len)) e ver ro))
      else none
    | _, _, _ => none
  | _, _ => none

abbrev CallF := FuncId → List AV → Heap → Option (AV × Heap)

def builtinA (P : Program) (b : Builtin) (ts : Array TypeId) (args : List AV) (H : Heap) : Option (AV × Heap) :=
  match b, args with
  | .len, [x] => (ts[0]?).bind fun t => (lenA P t x).map (·, H)
  | .append, [s, y] => match ts[0]?, ts[1]? with
    | some t, some u => if ts.size = 2 ∧ u = t then appendA P t u s y H else none
    | _, _ => none
  | .min, [x, y] => (minA x y).map (·, H)
  | .max, [x, y] => (maxA x y).map (·, H)
  | .clear, [x] => (ts[0]?).bind fun t => (clearA P t x H).map (.tup [], ·)
  | _, _ => none

/-- One operation: what it puts into its slot, and the heap behind it. -/
def opA (C : Ctx) (call : CallF) (o : Oper) (ρ : Env) (H : Heap) : Option (AV × Heap) :=
  match o.op with
  | .move x => some (opnd ρ x, H)
  | .assign x => some (opnd ρ x, H)
  | .pick c a b => match opnd ρ c with
    | .bool t => some (if t then opnd ρ a else opnd ρ b, H)
    | _ => none
  | .alloc t => (zeroA C.P t).map fun z => (.ptr H.length 0 z.cells.length, H ++ [.cells z.cells t 0 false])
  | .box t x => match opnd ρ x with
    | .dead => none
    | v => some (.ptr H.length 0 v.cells.length, H ++ [.cells v.cells t 0 false])
  | .build t parts => (buildA C.P t (parts.toList.map fun p => (p.1, opnd ρ p.2))).map (·, H)
  | .buildSlice t len parts => buildSliceA C.P t len (parts.toList.map fun p => (p.1, opnd ρ p.2)) H
  | .insert t m k v => (mapUpdateA C t (opnd ρ m) (opnd ρ k) (opnd ρ v) H).map (.tup [], ·)
  | .load t a => match opnd ρ a with
    | .ptr id off ver => (loadA C.P t H id off ver).map (·, H)
    | _ => none
  | .store t a x => match opnd ρ a with
    | .ptr id off ver => (storeA C.P t H id off ver (opnd ρ x)).map (.tup [], ·)
    | _ => none
  | .nilCheck x => match opnd ρ x with
    | .ptr id off ver => some (.ptr id off ver, H)
    | .fn f c => some (.fn f c, H)
    | _ => none
  | .binOp op t x y _ => (binA C op t (opnd ρ x) (opnd ρ y)).map (·, H)
  | .unOp op _ x => (unA op (opnd ρ x)).map (·, H)
  | .convert s d x => (convA C.P s d (opnd ρ x)).map (·, H)
  | .makeFunc (.func f) first captured => if first.size = 0 then some (.fn f (captured.toList.map (opnd ρ)), H) else none
  | .makeMap _ none => some (.map H.length, H ++ [.map []])
  | .makeSlice t l c => makeSliceA C.P t (opnd ρ l) (opnd ρ c) H
  | .slice t x lo hi none => (sliceA C.P t (opnd ρ x) (lo.map (opnd ρ)) (hi.map (opnd ρ))).map (·, H)
  | .fieldAddr s x f => (fieldAddrA C.P s (opnd ρ x) f).map (·, H)
  | .field s x f => (fieldA C.P s (opnd ρ x) f).map (·, H)
  | .indexAddr t x i => (indexAddrA C.P t (opnd ρ x) (opnd ρ i)).map (·, H)
  | .index t x i => (indexA C.P t (opnd ρ x) (opnd ρ i)).map (·, H)
  | .lookup t x k ok => (lookupA C t (opnd ρ x) (opnd ρ k) ok H).map (·, H)
  | .mapUpdate t m k v => (mapUpdateA C t (opnd ρ m) (opnd ρ k) (opnd ρ v) H).map (.tup [], ·)
  | .extract t i => match opnd ρ t with
    | .tup vs => (vs[i]?).map (·, H)
    | _ => none
  | .call { callee := .builtin b, args, argTypes } => builtinA C.P b argTypes (args.toList.map (opnd ρ)) H
  | .call { callee := .value f, args, argTypes := _ } => match opnd ρ f with
    | .fn g cap => call g (args.toList.map (opnd ρ) ++ cap) H
    | _ => none
  | _ => none

/-- Is an operation wanted: 'none': not known. -/
def wantedA (ops : Array Oper) (o : Oper) (ρ : Env) : Option Bool :=
  match o.guard with
  | none => some true
  | some (j, want) =>
    match (ops[j]?).bind (·.dst) with
    | none => some false
    | some d =>
      match ρ.getD d .dead with
      | .bool b => some (b == want)
      | .dead => none
      | _ => some false

def putSlot (ρ : Env) (dst : Option Tmp) (v : AV) : Env :=
  match dst with
  | some d => ρ.set d v
  | none => ρ

/-- A deferred call of a function value. -/
def deferA (o : Oper) (ρ : Env) : Option (FuncId × List AV) :=
  match o.op with
  | .defer { callee := .value f, args, argTypes := _ } => match opnd ρ f with
    | .fn g cap => some (g, args.toList.map (opnd ρ) ++ cap)
    | _ => none
  | _ => none

def stepA (C : Ctx) (call : CallF) (ops : Array Oper) (o : Oper) (s : St) : Option St :=
  match wantedA ops o s.ρ with
  | none => none
  | some false => some { s with ρ := putSlot s.ρ o.dst (.tup []) }
  | some true =>
    match deferA o s.ρ with
    | some d => some { s with ρ := putSlot s.ρ o.dst (.tup []), D := d :: s.D }
    | none => (opA C call o s.ρ s.H).map fun r => { s with ρ := putSlot s.ρ o.dst r.1, H := r.2 }

def runOps (C : Ctx) (call : CallF) (ops : Array Oper) : List Oper → St → Option St
  | [], s => some s
  | o :: rest, s => match stepA C call ops o s with
    | some s' => runOps C call ops rest s'
    | none => none

/-- The states ahead of each operation, and behind the last. -/
def runStates (C : Ctx) (call : CallF) (ops : Array Oper) : List Oper → St → Option (List St)
  | [], s => some [s]
  | o :: rest, s => match stepA C call ops o s with
    | some s' => (runStates C call ops rest s').map (s :: ·)
    | none => none

/-- May change the heap. -/
def heavy (o : Oper) : Bool :=
  match o.op with
  | .alloc _ | .box _ _ | .buildSlice _ _ _ | .insert _ _ _ _ | .store _ _ _ | .makeMap _ _ | .makeSlice _ _ _ | .mapUpdate _ _ _ _ | .defer _ => true
  | .call { callee := .builtin b, .. } => (match b with | .len | .min | .max => false | _ => true)
  | .call _ => true
  | _ => false
/-- Looks at the heap, and leaves it. -/
def reads (o : Oper) : Bool :=
  match o.op with
  | .load _ _ | .lookup _ _ _ _ => true
  | _ => false
def floats (o : Oper) : Bool :=
  match o.op with
  | .alloc _ => o.guard.isNone
  | _ => false
def defers (o : Oper) : Bool :=
  match o.op with
  | .defer _ => true
  | _ => false
def selects (o : Oper) : Bool :=
  match o.op with
  | .select _ _ => true
  | _ => false

/-- i is ahead of j in every order. -/
def ahead (ops : Array Oper) (i j : Nat) : Bool := ((Region.before ops).getD j 0).testBit i

/-- Whatever the order: slots are met in order, and so is what changes the heap, but for new variables behind it. -/
def orderOk (ops : Array Oper) : Bool :=
  ((List.range ops.size).all fun j => match ops[j]? with
    | some y => y.after.all fun e => !Region.binds .any e || decide (e.on < j)
    | none => false) &&
  (List.range ops.size).all fun j => (List.range j).all fun i =>
    match ops[i]?, ops[j]? with
    | some x, some y => ahead ops i j || ((x.apart ops y) && !(heavy x && heavy y && !floats y))
    | _, _ => false

/-- The looks at the heap, and what changes it, that no order is told of. -/
def loose (ops : Array Oper) : List (Nat × Nat) :=
  (List.range ops.size).flatMap fun i => (List.range ops.size).filterMap fun k =>
    match ops[i]?, ops[k]? with
    | some x, some y => if reads x && heavy y && !ahead ops i k && !ahead ops k i then some (i, k) else none
    | _, _ => none

/-- What look i finds is the same on both sides of the change k. -/
def looseOk (C : Ctx) (call : CallF) (ops : Array Oper) (L : List St) (p : Nat × Nat) : Bool :=
  match ops[p.1]?, L[p.1]?, L[if p.2 < p.1 then p.2 else p.2 + 1]? with
  | some o, some s, some u =>
    (match wantedA ops o s.ρ with
    | some true => (opA C call o s.ρ s.H).any fun a => (opA C call o s.ρ u.H).any fun b => a.1.same b.1
    | _ => true)
  | _, _, _ => false

def drawA (C : Ctx) (call : CallF) (ops : Array Oper) (s : St) : Option St :=
  if orderOk ops && !(ops.any defers) && !(ops.any selects) then
    match runStates C call ops ops.toList s with
    | some L => if (loose ops).all (looseOk C call ops L) then L[ops.size]? else none
    | none => none
  else none

def iterA (body : St → Option (AExit × St)) : Nat → St → Option (AExit × St)
  | 0, _ => none
  | k + 1, s =>
    match body s with
    | some (.normal, s') => iterA body k s'
    | r => r

def exec (C : Ctx) (call : CallF) (k : Nat) : Code → St → Option (AExit × St)
  | .skip, s => some (.normal, s)
  | .region _ ops draw, s => (if draw then drawA C call ops s else runOps C call ops ops.toList s).map (AExit.normal, ·)
  | .seq a b, s =>
    match exec C call k a s with
    | some (.normal, s') => exec C call k b s'
    | r => r
  | .cond c a b, s =>
    match opnd s.ρ c with
    | .bool true => exec C call k a s
    | .bool false => exec C call k b s
    | _ => none
  | .block id c, s =>
    match exec C call k c s with
    | some (.exit j, s') => if j = id then some (.normal, s') else some (.exit j, s')
    | r => r
  | .loop c, s => iterA (exec C call k c) k s
  | .exit id, s => some (.exit id, s)
  | .ret, s => some (.ret, s)
  | _, _ => none

/-- The deferred calls, the last one first. -/
def leaveA (dcall : FuncId → List AV → Heap → Option Heap) : List (FuncId × List AV) → Heap → Option Heap
  | [], H => some H
  | d :: ds, H => match dcall d.1 d.2 H with
    | some H' => leaveA dcall ds H'
    | none => none

def resultA (P : Program) (ρ : Env) (H : Heap) : ResultVar → Option AV
  | .tmp t => some (ρ.getD t .dead)
  | .cell a t => match ρ.getD a .dead with
    | .ptr id off ver => loadA P t H id off ver
    | _ => none

def resultsA (P : Program) (ρ : Env) (H : Heap) (rs : List ResultVar) : Option AV :=
  match rs with
  | [r] => resultA P ρ H r
  | rs => (rs.mapM (resultA P ρ H)).map .tup

def enterA (n : Nat) (args : List AV) : Env := args ++ List.replicate (n - args.length) (.tup [])

/-- A function's body, run to its end. -/
def runF (C : Ctx) (call : CallF) (n : Nat) (f : FuncId) (args : List AV) (H : Heap) : Option (Func × St) :=
  match C.P.funcs[f]? with
  | some fn =>
    match fn.body with
    | some c =>
      if fn.name = "runtime.NumGoroutine" then none
      else match exec C call n c ⟨enterA fn.ntmps args, H, []⟩ with
      | some (.normal, s) => some (fn, s)
      | some (.ret, s) => some (fn, s)
      | _ => none
    | none => none
  | none => none

/-- A deferred call, of a function that defers nothing. -/
def dcallA (C : Ctx) (call : CallF) (n : Nat) (f : FuncId) (args : List AV) (H : Heap) : Option Heap :=
  match runF C call n f args H with
  | some (fn, s) => if s.D.isEmpty then (resultsA C.P s.ρ s.H fn.results.toList).map fun _ => s.H else none
  | none => none

def callA (C : Ctx) : Nat → CallF
  | 0, _, _, _ => none
  | n + 1, f, args, H =>
    if (C.T.contains f && args.isEmpty) = true then some (.bool true, H) else
    match runF C (callA C n) n f args H with
    | some (fn, s) => (leaveA (dcallA C (callA C n) n) s.D s.H).bind fun H' => (resultsA C.P s.ρ H' fn.results.toList).map (·, H')
    | none => none

end Go.Va
end

section
set_option linter.unusedSimpArgs false
set_option linter.unusedVariables false
set_option linter.unusedSectionVars false
namespace Go.Va

/-- Where a version of an object lies: its block, the first cell, the capacity in elements, an element's cells, and whether nobody writes there. -/
structure Pl where
  blk : Nat
  base : Nat
  cap : Nat
  sz : Nat
  ro : Bool

abbrev Plc := Nat → Nat → Option Pl

/-- An abstract value stands for a value of the model. -/
inductive VR (M : Plc) : AV → Value → Prop
  | dead (x : Value) : VR M .dead x
  | bool (b : Bool) : VR M (.bool b) (.bool b)
  | int (k : IntKind) (n : Int) : VR M (.int k n) (.int k n)
  | str (s : ByteArray) : VR M (.str s) (.string s)
  | nilp : VR M .nilp (.pointer none)
  | ptr (id off ver : Nat) (pl : Pl) (h : M id ver = some pl) : VR M (.ptr id off ver) (.pointer (some ⟨pl.blk, pl.base + off, none⟩))
  | nilsl : VR M .nilsl (.slice none 0 0)
  | esl (a : Addr) : VR M .esl (.slice (some a) 0 0)
  | sl (id off len ver sz cap : Nat) (a : Addr) (pl : Pl) (h : M id ver = some pl) (hs : pl.sz = sz) (hc : off + cap = pl.cap) (hl : len ≤ cap)
      (he : (off + len) * sz ≤ ver) (ha : cap ≠ 0 → a = ⟨pl.blk, pl.base + off * sz, none⟩) : VR M (.sl id off len ver sz) (.slice (some a) len cap)
  | nilm : VR M .nilm (.map none)
  | map (id : Nat) (pl : Pl) (h : M id 0 = some pl) : VR M (.map id) (.map (some pl.blk))
  | nilf : VR M .nilf .nilFunc
  | fn (f : FuncId) (cs : List AV) (xs : Array Value) (hl : cs.length = xs.size) (h : ∀ i (h1 : i < cs.length) (h2 : i < xs.size), VR M cs[i] xs[i]) :
      VR M (.fn f cs) (.func (.func f) #[] xs)
  | agg (cs : List AV) (xs : Array Value) (hl : cs.length = xs.size) (h : ∀ i (h1 : i < cs.length) (h2 : i < xs.size), VR M cs[i] xs[i]) :
      VR M (.agg cs) (.agg xs)
  | tup (cs : List AV) (xs : Array Value) (hl : cs.length = xs.size) (h : ∀ i (h1 : i < cs.length) (h2 : i < xs.size), VR M cs[i] xs[i]) :
      VR M (.tup cs) (.tuple xs)

/-- Rows of values, one by one. -/
def VRs (M : Plc) (cs : List AV) (xs : Array Value) : Prop := cs.length = xs.size ∧ ∀ (i : Nat) (x : AV), cs[i]? = some x → ∃ y, xs[i]? = some y ∧ VR M x y

theorem VRs.mk' {M : Plc} {cs : List AV} {xs : Array Value} (hl : cs.length = xs.size) (h : ∀ i (h1 : i < cs.length) (h2 : i < xs.size), VR M cs[i] xs[i]) : VRs M cs xs :=
  ⟨hl, fun i x hx => by
    obtain ⟨h1, rfl⟩ := List.getElem?_eq_some_iff.1 hx
    exact ⟨xs[i]'(by omega), Array.getElem?_eq_getElem _, h i h1 (by omega)⟩⟩
theorem VRs.get {M : Plc} {cs : List AV} {xs : Array Value} (h : VRs M cs xs) : ∀ i (h1 : i < cs.length) (h2 : i < xs.size), VR M cs[i] xs[i] := by
  intro i h1 h2
  obtain ⟨y, hy, hv⟩ := h.2 i _ (List.getElem?_eq_getElem h1)
  rw [Array.getElem?_eq_getElem h2] at hy
  cases hy
  exact hv
theorem VR.agg' {M : Plc} {cs : List AV} {xs : Array Value} (h : VRs M cs xs) : VR M (.agg cs) (.agg xs) := .agg cs xs h.1 h.get
theorem VR.tup' {M : Plc} {cs : List AV} {xs : Array Value} (h : VRs M cs xs) : VR M (.tup cs) (.tuple xs) := .tup cs xs h.1 h.get
theorem VR.fn' {M : Plc} {f : FuncId} {cs : List AV} {xs : Array Value} (h : VRs M cs xs) : VR M (.fn f cs) (.func (.func f) #[] xs) := .fn f cs xs h.1 h.get
theorem VR.agg_inv {M : Plc} {cs : List AV} {x : Value} (h : VR M (.agg cs) x) : ∃ xs, x = .agg xs ∧ VRs M cs xs := by
  cases h with | agg _ xs hl h => exact ⟨xs, rfl, .mk' hl h⟩
theorem VR.tup_inv {M : Plc} {cs : List AV} {x : Value} (h : VR M (.tup cs) x) : ∃ xs, x = .tuple xs ∧ VRs M cs xs := by
  cases h with | tup _ xs hl h => exact ⟨xs, rfl, .mk' hl h⟩
theorem VR.fn_inv {M : Plc} {f : FuncId} {cs : List AV} {x : Value} (h : VR M (.fn f cs) x) : ∃ xs, x = .func (.func f) #[] xs ∧ VRs M cs xs := by
  cases h with | fn _ _ xs hl h => exact ⟨xs, rfl, .mk' hl h⟩

/-- More is known. -/
def Le (M M' : Plc) : Prop := ∀ id ver pl, M id ver = some pl → M' id ver = some pl
theorem Le.refl (M : Plc) : Le M M := fun _ _ _ h => h
theorem Le.trans {M M' M'' : Plc} (h : Le M M') (h' : Le M' M'') : Le M M'' := fun _ _ _ e => h' _ _ _ (h _ _ _ e)

theorem VR.mono {M M' : Plc} (hm : Le M M') {v : AV} {x : Value} (h : VR M v x) : VR M' v x := by
  induction h with
  | dead x => exact .dead x
  | bool b => exact .bool b
  | int k n => exact .int k n
  | str s => exact .str s
  | nilp => exact .nilp
  | ptr id off ver pl h => exact .ptr id off ver pl (hm _ _ _ h)
  | nilsl => exact .nilsl
  | esl a => exact .esl a
  | sl id off len ver sz cap a pl h hs hc hl he ha => exact .sl id off len ver sz cap a pl (hm _ _ _ h) hs hc hl he ha
  | nilm => exact .nilm
  | map id pl h => exact .map id pl (hm _ _ _ h)
  | nilf => exact .nilf
  | fn f cs xs hl _ ih => exact .fn f cs xs hl ih
  | agg cs xs hl _ ih => exact .agg cs xs hl ih
  | tup cs xs hl _ ih => exact .tup cs xs hl ih
theorem VRs.mono {M M' : Plc} (hm : Le M M') {cs : List AV} {xs : Array Value} (h : VRs M cs xs) : VRs M' cs xs :=
  ⟨h.1, fun i x hx => let ⟨y, hy, hv⟩ := h.2 i x hx; ⟨y, hy, hv.mono hm⟩⟩

theorem VR.one_cell {M : Plc} {v : AV} {x : Value} (h : VR M v x) (h1 : v.one = true) : x.oneCell' = true := by
  cases h <;> first | rfl | simp [AV.one] at h1
theorem VR.cells_one {M : Plc} {v : AV} {x : Value} (h : VR M v x) (h1 : v.one = true) : v.cells = [v] ∧ x.cells = #[x] := by
  cases h <;> first | exact ⟨rfl, rfl⟩ | simp [AV.one] at h1

theorem VRs.one {M : Plc} {v : AV} {x : Value} (h : VR M v x) : VRs M [v] #[x] :=
  ⟨rfl, fun i y hy => by
    cases i with
    | zero => simp at hy; subst hy; exact ⟨x, rfl, h⟩
    | succ i => simp at hy⟩

theorem VR.cells {M : Plc} {v : AV} {x : Value} (h : VR M v x) (hd : v.isDead = false) : VRs M v.cells x.cells := by
  cases h with
  | dead x => simp [AV.isDead] at hd
  | agg cs xs hl h => exact .mk' hl h
  | bool b => exact .one (.bool b)
  | int k n => exact .one (.int k n)
  | str s => exact .one (.str s)
  | nilp => exact .one .nilp
  | ptr id off ver pl h => exact .one (.ptr id off ver pl h)
  | nilsl => exact .one .nilsl
  | esl a => exact .one (.esl a)
  | sl id off len ver sz cap a pl h hs hc hl he ha => exact .one (.sl id off len ver sz cap a pl h hs hc hl he ha)
  | nilm => exact .one .nilm
  | map id pl h => exact .one (.map id pl h)
  | nilf => exact .one .nilf
  | fn f cs xs hl h => exact .one (.fn f cs xs hl h)
  | tup cs xs hl h => exact .one (.tup cs xs hl h)

theorem VR.ofV1 {M : Plc} (x : Value) : VR M (ofV1 x) x := by
  unfold Va.ofV1
  split <;> first | exact .dead _ | constructor
theorem VRs.ofList {M : Plc} (xs : Array Value) : VRs M (xs.toList.map Va.ofV1) xs :=
  ⟨by simp, fun i x hx => by
    simp only [List.getElem?_map, Option.map_eq_some_iff] at hx
    obtain ⟨y, hy, rfl⟩ := hx
    exact ⟨y, by simpa using hy, .ofV1 y⟩⟩
theorem VR.ofV {M : Plc} (x : Value) : VR M (ofV x) x := by
  unfold Va.ofV
  split
  · exact .agg' (.ofList _)
  · exact .tup [] ⟨[]⟩ rfl (fun i h => by simp at h)
  · exact .ofV1 _

/-- The cells of a row, from a base on. -/
def CellsR (M : Plc) (c : List AV) (n : Nat) (arr : Array Value) (base : Nat) : Prop :=
  ∀ (i : Nat) (x : AV), i < n → c[i]? = some x → ∃ y, arr[base + i]? = some y ∧ VR M x y

/-- The heap stands for the world's blocks. -/
structure HR (M : Plc) (H : Heap) (w : World) : Prop where
  cells : ∀ id c e born ro, H[id]? = some (.cells c e born ro) → ∀ v pl, M id v = some pl →
    v ≤ c.length ∧ pl.ro = ro ∧
    (born ≤ v → ∃ arr el fz, w.heap[pl.blk]? = some (.cells arr el fz) ∧ pl.base + v ≤ arr.size ∧ CellsR M c v arr pl.base ∧
      (ro = false → pl.base = 0 ∧ fz = (0, 0) ∧ arr.size = pl.cap * pl.sz ∧ v ≤ pl.cap * pl.sz ∧ el = e))
  maps : ∀ id es, H[id]? = some (.map es) → ∀ v pl, M id v = some pl → (v = 0 ∧ pl.ro = false) ∧
    ∃ (es' : Array MapEntry) (clock : Nat), w.heap[pl.blk]? = some (.map es' clock) ∧ es.length = es'.size ∧
      ∀ (i : Nat) (k x : AV), es[i]? = some (k, x) → ∃ m : MapEntry, es'[i]? = some m ∧ VR M k m.key ∧ VR M x m.val
  excl : ∀ id v pl id' v' pl', M id v = some pl → M id' v' = some pl' → id ≠ id' → pl.blk = pl'.blk → pl.ro = true ∧ pl'.ro = true
  inb : ∀ id v pl, M id v = some pl → pl.blk < w.heap.size

/-- What lies outside of what the heap's own objects own is as it was; and what is owned now was owned, or is new. -/
structure Fr (M : Plc) (H : Heap) (w : World) (M' : Plc) (H' : Heap) (w' : World) : Prop where
  le : Le M M'
  beyond : ∀ id, H'.length ≤ id → M' id = M id
  len : H.length ≤ H'.length
  os : w'.os = w.os
  output : w'.output = w.output
  tape : w'.tape = w.tape
  size : w.heap.size ≤ w'.heap.size
  block : ∀ b, b < w.heap.size → (∀ id v pl, id < H.length → M id v = some pl → pl.ro = false → pl.blk ≠ b) → w'.heap[b]? = w.heap[b]?
  new : ∀ id v pl, id < H'.length → M' id v = some pl → pl.ro = false → pl.blk < w.heap.size → ∃ v₀ pl₀, id < H.length ∧ M id v₀ = some pl₀ ∧ pl₀.ro = false ∧ pl₀.blk = pl.blk

/-- No object has the numbers that are still free. -/
def Free (M : Plc) (a b : Nat) : Prop := ∀ id v, a ≤ id → id < b → M id v = none
theorem Free.mono {M : Plc} {a b c d : Nat} (h : Free M a b) (h1 : a ≤ c) (h2 : d ≤ b) : Free M c d := fun id v p q => h id v (by omega) (by omega)

theorem Fr.refl (M : Plc) (H : Heap) (w : World) : Fr M H w M H w :=
  ⟨.refl M, fun _ _ => rfl, Nat.le_refl _, rfl, rfl, rfl, Nat.le_refl _, fun _ _ _ => rfl, fun id v pl hi h hr _ => ⟨v, pl, hi, h, hr, rfl⟩⟩
theorem Fr.trans {M M₁ M₂ : Plc} {H H₁ H₂ : Heap} {w w₁ w₂ : World} (h : Fr M H w M₁ H₁ w₁) (k : Fr M₁ H₁ w₁ M₂ H₂ w₂) : Fr M H w M₂ H₂ w₂ := by
  refine ⟨h.le.trans k.le, fun id hi => (k.beyond id hi).trans (h.beyond id (by have := k.len; omega)), Nat.le_trans h.len k.len,
    k.os.trans h.os, k.output.trans h.output, k.tape.trans h.tape, Nat.le_trans h.size k.size, ?_, ?_⟩
  · intro b hb hn
    rw [k.block b (by have := h.size; omega) ?_, h.block b hb hn]
    intro id v pl hi hM hr he
    obtain ⟨v₀, pl₀, hi₀, h₀, hr₀, hb₀⟩ := h.new id v pl hi hM hr (by omega)
    exact hn id v₀ pl₀ hi₀ h₀ hr₀ (by omega)
  · intro id v pl hi hM hr hb
    obtain ⟨v₁, pl₁, hi₁, h₁, hr₁, hb₁⟩ := k.new id v pl hi hM hr (by have := h.size; omega)
    obtain ⟨v₀, pl₀, hi₀, h₀, hr₀, hb₀⟩ := h.new id v₁ pl₁ hi₁ h₁ hr₁ (by omega)
    exact ⟨v₀, pl₀, hi₀, h₀, hr₀, by omega⟩

/-- A draw turns nothing. -/
theorem HR.drew {M : Plc} {H : Heap} {w w' : World} (h : HR M H w) (hh : w'.heap = w.heap) : HR M H w' :=
  ⟨by rw [hh]; exact h.cells, by rw [hh]; exact h.maps, h.excl, by rw [hh]; exact h.inb⟩

end Go.Va
end

section
set_option linter.unusedSimpArgs false
set_option linter.unusedVariables false
set_option linter.unusedSectionVars false
namespace Go.Va

def upd (M : Plc) (id v : Nat) (pl : Pl) : Plc := fun i u => if i = id ∧ u = v then some pl else M i u
theorem upd_same (M : Plc) (id v : Nat) (pl : Pl) : upd M id v pl id v = some pl := by simp [upd]
theorem upd_other {M : Plc} {id v : Nat} {pl : Pl} {i u : Nat} (h : i ≠ id ∨ u ≠ v) : upd M id v pl i u = M i u := by
  unfold upd; rw [if_neg]; rintro ⟨rfl, rfl⟩; simp at h
theorem Le.upd {M : Plc} {id v : Nat} {pl : Pl} (h : M id v = none) : Le M (upd M id v pl) := by
  intro i u p hp
  by_cases hi : i = id ∧ u = v
  · obtain ⟨rfl, rfl⟩ := hi; rw [h] at hp; cases hp
  · simp [Va.upd, hi, hp]

theorem getElem?_snoc {α : Type} (l : List α) (x : α) (i : Nat) : (l ++ [x])[i]? = if i = l.length then some x else l[i]? := by
  by_cases h : i < l.length
  · rw [List.getElem?_append_left h, if_neg (by omega)]
  · by_cases h2 : i = l.length
    · subst h2; simp
    · rw [if_neg h2, List.getElem?_append_right (by omega), List.getElem?_eq_none (by simp; omega), List.getElem?_eq_none (by omega)]

theorem heap_push (w : World) (o : Obj) (b : Nat) (h : b < w.heap.size) : (w.alloc o).heap[b]? = w.heap[b]? := by
  show (w.heap.push o)[b]? = _
  rw [Array.getElem?_push, if_neg (by omega)]
theorem heap_top (w : World) (o : Obj) : (w.alloc o).heap[w.heap.size]? = some o := by
  show (w.heap.push o)[w.heap.size]? = some o
  simp
theorem size_push (w : World) (o : Obj) : (w.alloc o).heap.size = w.heap.size + 1 := by
  show (w.heap.push o).size = _
  simp

/-- The general step: one object's number gets a new content (and perhaps a new version); all other blocks that are known stay. -/
theorem HR.turn {M M' : Plc} {H H' : Heap} {w w' : World} (h : HR M H w) (id : Nat)
    (hH : ∀ i, i ≠ id → H'[i]? = H[i]?) (hM : ∀ i v, i ≠ id → M' i v = M i v) (hle : Le M M')
    (hw : ∀ i v pl, i ≠ id → M i v = some pl → w'.heap[pl.blk]? = w.heap[pl.blk]?) (hs : w.heap.size ≤ w'.heap.size)
    (hc : ∀ c e born ro, H'[id]? = some (.cells c e born ro) → ∀ v pl, M' id v = some pl → v ≤ c.length ∧ pl.ro = ro ∧
      (born ≤ v → ∃ arr el fz, w'.heap[pl.blk]? = some (.cells arr el fz) ∧ pl.base + v ≤ arr.size ∧ CellsR M' c v arr pl.base ∧
        (ro = false → pl.base = 0 ∧ fz = (0, 0) ∧ arr.size = pl.cap * pl.sz ∧ v ≤ pl.cap * pl.sz ∧ el = e)))
    (hm : ∀ es, H'[id]? = some (.map es) → ∀ v pl, M' id v = some pl → (v = 0 ∧ pl.ro = false) ∧
      ∃ (es' : Array MapEntry) (clock : Nat), w'.heap[pl.blk]? = some (.map es' clock) ∧ es.length = es'.size ∧
        ∀ (i : Nat) (k x : AV), es[i]? = some (k, x) → ∃ m : MapEntry, es'[i]? = some m ∧ VR M' k m.key ∧ VR M' x m.val)
    (hx : ∀ v pl, M' id v = some pl → pl.ro = false ∧ pl.blk < w'.heap.size ∧ ∀ i v' pl', i ≠ id → M i v' = some pl' → pl'.blk ≠ pl.blk) :
    HR M' H' w' := by
  refine ⟨?_, ?_, ?_, ?_⟩
  · intro i c e born ro hi v pl hp
    by_cases hid : i = id
    · subst hid; exact hc c e born ro hi v pl hp
    · rw [hH i hid] at hi
      rw [hM i v hid] at hp
      obtain ⟨h1, h2, h3⟩ := h.cells i c e born ro hi v pl hp
      refine ⟨h1, h2, fun hb => ?_⟩
      obtain ⟨arr, el, fz, ha, hn, hcs, hr⟩ := h3 hb
      refine ⟨arr, el, fz, by rw [hw i v pl hid hp]; exact ha, hn, ?_, hr⟩
      intro k x hk hx'
      obtain ⟨y, hy, hv⟩ := hcs k x hk hx'
      exact ⟨y, hy, hv.mono hle⟩
  · intro i es hi v pl hp
    by_cases hid : i = id
    · subst hid; exact hm es hi v pl hp
    · rw [hH i hid] at hi
      rw [hM i v hid] at hp
      obtain ⟨h2, es', clock, ha, hn, hcs⟩ := h.maps i es hi v pl hp
      refine ⟨h2, es', clock, by rw [hw i v pl hid hp]; exact ha, hn, ?_⟩
      intro k a b hk
      obtain ⟨m, hm', hv, hv'⟩ := hcs k a b hk
      exact ⟨m, hm', hv.mono hle, hv'.mono hle⟩
  · intro i v pl i' v' pl' hp hp' hne hb
    by_cases h1 : i = id
    · subst h1
      rw [hM i' v' (Ne.symm hne)] at hp'
      exact absurd hb.symm ((hx v pl hp).2.2 i' v' pl' (Ne.symm hne) hp')
    · by_cases h2 : i' = id
      · subst h2
        rw [hM i v h1] at hp
        exact absurd hb ((hx v' pl' hp').2.2 i v pl h1 hp)
      · rw [hM i v h1] at hp
        rw [hM i' v' h2] at hp'
        exact h.excl i v pl i' v' pl' hp hp' hne hb
  · intro i v pl hp
    by_cases h1 : i = id
    · subst h1; exact (hx v pl hp).2.1
    · rw [hM i v h1] at hp
      have := h.inb i v pl hp
      omega

/-- A new object with cells, in a new block. -/
theorem HR.push {M : Plc} {H : Heap} {w : World} (h : HR M H w) (hf : Free M H.length (H.length + 1)) (cs : List AV) (arr : Array Value) (e : TypeId) (cap sz : Nat)
    (hl : cs.length ≤ arr.size) (ha : arr.size = cap * sz) (hc : CellsR M cs cs.length arr 0) :
    HR (upd M H.length cs.length ⟨w.heap.size, 0, cap, sz, false⟩) (H ++ [.cells cs e 0 false]) (w.alloc (.cells arr e)) := by
  have hfree : ∀ v, M H.length v = none := fun v => hf _ v (Nat.le_refl _) (by omega)
  have hle : Le M (upd M H.length cs.length ⟨w.heap.size, 0, cap, sz, false⟩) := Le.upd (hfree _)
  have hval : ∀ v pl, upd M H.length cs.length ⟨w.heap.size, 0, cap, sz, false⟩ H.length v = some pl → v = cs.length ∧ pl = ⟨w.heap.size, 0, cap, sz, false⟩ := by
    intro v pl hp
    by_cases hv : v = cs.length
    · subst hv; rw [upd_same] at hp; cases hp; exact ⟨rfl, rfl⟩
    · rw [upd_other (.inr hv), hfree] at hp; cases hp
  refine h.turn H.length ?_ ?_ hle ?_ ?_ ?_ ?_ ?_
  · intro i hi; rw [getElem?_snoc, if_neg hi]
  · intro i v hi; exact upd_other (.inl hi)
  · intro i v pl _ hp; exact heap_push w _ _ (h.inb i v pl hp)
  · rw [size_push]; omega
  · intro c e' born ro hi v pl hp
    obtain ⟨rfl, rfl⟩ := hval v pl hp
    rw [getElem?_snoc, if_pos rfl] at hi
    cases hi
    refine ⟨Nat.le_refl _, rfl, fun _ => ⟨arr, e, (0, 0), heap_top w _, by simpa using hl, ?_, fun _ => ⟨rfl, rfl, ha, by rw [← ha]; exact hl, rfl⟩⟩⟩
    intro i x hi' hx
    obtain ⟨y, hy, hv⟩ := hc i x hi' hx
    exact ⟨y, hy, hv.mono hle⟩
  · intro es hi
    rw [getElem?_snoc, if_pos rfl] at hi
    cases hi
  · intro v pl hp
    obtain ⟨rfl, rfl⟩ := hval v pl hp
    refine ⟨rfl, by rw [size_push]; exact Nat.lt_succ_self _, fun i v' pl' _ hp' => ?_⟩
    have := h.inb i v' pl' hp'
    exact Nat.ne_of_lt this

theorem Fr.push {M : Plc} {H : Heap} {w : World} (hf : Free M H.length (H.length + 1)) (v : Nat) (pl : Pl) (hb : pl.blk = w.heap.size) (o : AObj) (x : Obj) :
    Fr M H w (upd M H.length v pl) (H ++ [o]) (w.alloc x) := by
  refine ⟨Le.upd (hf _ v (Nat.le_refl _) (by omega)), ?_, by simp, rfl, rfl, rfl, by rw [size_push]; omega, fun b hb' _ => heap_push w x b hb', ?_⟩
  · intro id hi
    simp only [List.length_append, List.length_singleton] at hi
    funext u
    exact upd_other (.inl (by omega))
  · intro id u p hi hp hr hlt
    by_cases h1 : id = H.length ∧ u = v
    · obtain ⟨rfl, rfl⟩ := h1
      rw [upd_same] at hp; cases hp; omega
    · have hp' : M id u = some p := by
        by_cases h2 : id = H.length
        · subst h2; exact absurd ((hf _ u (Nat.le_refl _) (by omega))) (by rw [upd_other (.inr (by simpa using h1))] at hp; rw [hp]; simp)
        · rwa [upd_other (.inl h2)] at hp
      by_cases h2 : id = H.length
      · subst h2; rw [hf _ u (Nat.le_refl _) (by omega)] at hp'; cases hp'
      · simp only [List.length_append, List.length_singleton] at hi
        exact ⟨u, p, by omega, hp', hr, rfl⟩

/-- A new map. -/
theorem HR.pushMap {M : Plc} {H : Heap} {w : World} (h : HR M H w) (hf : Free M H.length (H.length + 1)) :
    HR (upd M H.length 0 ⟨w.heap.size, 0, 0, 0, false⟩) (H ++ [.map []]) (w.alloc (.map #[] 0)) := by
  have hfree : ∀ v, M H.length v = none := fun v => hf _ v (Nat.le_refl _) (by omega)
  have hval : ∀ v pl, upd M H.length 0 ⟨w.heap.size, 0, 0, 0, false⟩ H.length v = some pl → v = 0 ∧ pl = ⟨w.heap.size, 0, 0, 0, false⟩ := by
    intro v pl hp
    by_cases hv : v = 0
    · subst hv; rw [upd_same] at hp; cases hp; exact ⟨rfl, rfl⟩
    · rw [upd_other (.inr hv), hfree] at hp; cases hp
  refine h.turn H.length ?_ ?_ (Le.upd (hfree _)) ?_ ?_ ?_ ?_ ?_
  · intro i hi; rw [getElem?_snoc, if_neg hi]
  · intro i v hi; exact upd_other (.inl hi)
  · intro i v pl _ hp; exact heap_push w _ _ (h.inb i v pl hp)
  · rw [size_push]; omega
  · intro c e born ro hi
    rw [getElem?_snoc, if_pos rfl] at hi
    cases hi
  · intro es hi v pl hp
    obtain ⟨rfl, rfl⟩ := hval v pl hp
    rw [getElem?_snoc, if_pos rfl] at hi
    cases hi
    exact ⟨⟨rfl, rfl⟩, #[], 0, heap_top w _, rfl, fun i k x hk => by simp at hk⟩
  · intro v pl hp
    obtain ⟨rfl, rfl⟩ := hval v pl hp
    exact ⟨rfl, by rw [size_push]; exact Nat.lt_succ_self _, fun i v' pl' _ hp' => Nat.ne_of_lt (h.inb i v' pl' hp')⟩

/-- Only the block of an owned object has turned. -/
structure OnlyBlk (b : Nat) (w w' : World) : Prop where
  os : w'.os = w.os
  output : w'.output = w.output
  tape : w'.tape = w.tape
  size : w'.heap.size = w.heap.size
  block : ∀ k, k ≠ b → w'.heap[k]? = w.heap[k]?

theorem Fr.only {M : Plc} {H H' : Heap} {w w' : World} {id v : Nat} {pl : Pl} (hw : OnlyBlk pl.blk w w') (hl : H'.length = H.length) (hi : id < H.length) (hp : M id v = some pl)
    (hr : pl.ro = false) : Fr M H w M H' w' :=
  ⟨.refl M, fun _ _ => rfl, by omega, hw.os, hw.output, hw.tape, by have := hw.size; omega, fun b _ hn => hw.block b (fun e => hn id v pl hi hp hr e.symm),
    fun i u p hi' h hr' _ => ⟨u, p, by omega, h, hr', rfl⟩⟩

/-- An owned object's cells are written in place: its newest version alone is left. -/
theorem HR.write {M : Plc} {H : Heap} {w w' : World} (h : HR M H w) (id : Nat) (c c' : List AV) (e : TypeId) (born : Nat) (hid : H[id]? = some (.cells c e born false))
    (pl : Pl) (hp : M id c.length = some pl) (hl : c'.length = c.length) (hw : OnlyBlk pl.blk w w') (arr arr' : Array Value) (el : TypeId)
    (ha : w.heap[pl.blk]? = some (.cells arr el (0, 0))) (ha' : w'.heap[pl.blk]? = some (.cells arr' el (0, 0))) (hs : arr'.size = arr.size) (hb : born ≤ c.length)
    (hc : CellsR M c' c.length arr' 0) : HR M (H.set id (.cells c' e c.length false)) w' := by
  have hi : id < H.length := (List.getElem?_eq_some_iff.1 hid).1
  refine h.turn id ?_ (fun _ _ _ => rfl) (.refl M) ?_ (by rw [hw.size]; exact Nat.le_refl _) ?_ ?_ ?_
  · intro i hne; rw [List.getElem?_set_ne (Ne.symm hne)]
  · intro i v pl' hne hp'
    refine hw.block _ fun e' => ?_
    have := (h.excl i v pl' id c.length pl hp' hp hne e').2
    have h2 := (h.cells id c e born false hid _ pl hp).2.1
    rw [h2] at this; cases this
  · intro c₂ e₂ b₂ ro₂ hi₂ v pl' hp'
    rw [List.getElem?_set_self hi] at hi₂
    cases hi₂
    have hold := h.cells id c e born false hid v pl' hp'
    refine ⟨by omega, hold.2.1, fun hv => ?_⟩
    obtain rfl : v = c.length := by omega
    rw [hp] at hp'; cases hp'
    obtain ⟨arr₀, el₀, fz₀, h0, hn, _, hr⟩ := hold.2.2 hb
    rw [ha] at h0; cases h0
    obtain ⟨h1, h2, h3, h4, h5⟩ := hr rfl
    refine ⟨arr', el, (0, 0), ha', by omega, by rw [h1]; exact hc, fun _ => ⟨h1, rfl, by omega, h4, h5⟩⟩
  · intro es hes
    rw [List.getElem?_set_self hi] at hes
    cases hes
  · intro v pl' hp'
    have hold := h.cells id c e born false hid v pl' hp'
    have hro : pl'.ro = false := hold.2.1
    refine ⟨hro, by rw [hw.size]; exact h.inb id v pl' hp', fun i u pl₂ hne h₂ he => ?_⟩
    have := (h.excl i u pl₂ id v pl' h₂ hp' hne he).2
    rw [hro] at this; cases this

/-- A map is written. -/
theorem HR.writeMap {M : Plc} {H : Heap} {w w' : World} (h : HR M H w) (id : Nat) (es es₂ : List (AV × AV)) (hid : H[id]? = some (.map es))
    (pl : Pl) (hp : M id 0 = some pl) (hw : OnlyBlk pl.blk w w') (es' : Array MapEntry) (clock : Nat)
    (ha' : w'.heap[pl.blk]? = some (.map es' clock)) (hs : es₂.length = es'.size)
    (hc : ∀ (i : Nat) (k x : AV), es₂[i]? = some (k, x) → ∃ m : MapEntry, es'[i]? = some m ∧ VR M k m.key ∧ VR M x m.val) : HR M (H.set id (.map es₂)) w' := by
  have hi : id < H.length := (List.getElem?_eq_some_iff.1 hid).1
  have hro : pl.ro = false := (h.maps id es hid 0 pl hp).1.2
  have hu : ∀ v p, M id v = some p → v = 0 := fun v p hv => (h.maps id es hid v p hv).1.1
  refine h.turn id ?_ (fun _ _ _ => rfl) (.refl M) ?_ (by rw [hw.size]; exact Nat.le_refl _) ?_ ?_ ?_
  · intro i hne; rw [List.getElem?_set_ne (Ne.symm hne)]
  · intro i v pl' hne hp'
    refine hw.block _ fun e' => ?_
    have := (h.excl i v pl' id 0 pl hp' hp hne e').2
    rw [hro] at this; cases this
  · intro c₂ e₂ b₂ ro₂ hi₂
    rw [List.getElem?_set_self hi] at hi₂
    cases hi₂
  · intro es₃ hes v pl' hp'
    rw [List.getElem?_set_self hi] at hes
    cases hes
    obtain rfl := hu v pl' hp'
    rw [hp] at hp'; cases hp'
    exact ⟨⟨rfl, hro⟩, es', clock, ha', hs, hc⟩
  · intro v pl' hp'
    obtain rfl := hu v pl' hp'
    rw [hp] at hp'; cases hp'
    refine ⟨hro, by rw [hw.size]; exact h.inb id 0 pl hp, fun i u pl₂ hne h₂ he => ?_⟩
    have := (h.excl i u pl₂ id 0 pl h₂ hp hne he).2
    rw [hro] at this; cases this

end Go.Va
end

section
set_option linter.unusedSimpArgs false
set_option linter.unusedVariables false
set_option linter.unusedSectionVars false
namespace Go.Va

/-- A struct type whose fields are whole numbers and bools, one behind the other. -/
structure PlainEq (P : Program) (t : TypeId) (ks : List Bool) : Prop where
  fields : ∃ fs : Array Field, P.underlying t = some (.struct fs) ∧ ks.length = fs.size ∧
    ∀ (i : Nat) (f : Field), fs[i]? = some f → f.name ≠ "_" ∧ f.offset = i ∧ ((ks[i]? = some true ∧ ∃ k, P.underlying f.type = some (.int k)) ∨ (ks[i]? = some false ∧ P.underlying f.type = some .bool))
  stood : P.stoodInHeld t = false
  guard : P.eqGuardType P.depth t = false

/-- A function without arguments that comes to true from any world, and leaves all that there was. -/
def Truth (P : Program) (f : FuncId) : Prop :=
  (∃ fn, P.funcs[f]? = some fn ∧ fn.body.isSome = true ∧ fn.name ≠ "runtime.NumGoroutine") ∧
  ∀ w : World, Calls P f #[] w fun e w' => e = .returned (.bool true) ∧ w'.os = w.os ∧ w'.output = w.output ∧ w'.tape = w.tape ∧ w.heap.size ≤ w'.heap.size ∧ ∀ b, b < w.heap.size → w'.heap[b]? = w.heap[b]?

structure Ctx.ok (C : Ctx) : Prop where
  tru : ∀ f, f ∈ C.T → Truth C.P f
  eq : ∀ t ks, C.kinds t = some ks → PlainEq C.P t ks
  mixed : C.P.follows .mixedOrders = true

variable {P : Program} {M : Plc} {w : World}

theorem und_info {t : TypeId} {d : TypeDesc} (h : P.underlying t = some d) : ∃ i, P.info? t = some i := by
  unfold Program.underlying at h
  cases hi : P.info? t with
  | none => simp [hi] at h
  | some i => exact ⟨i, rfl⟩

def aggD : TypeDesc → Bool
  | .struct _ => true
  | .array _ _ => true
  | _ => false
theorem aggD_false {d : TypeDesc} (h1 : ∀ fs, d = .struct fs → False) (h2 : ∀ n e, d = .array n e → False) : aggD d = false := by
  cases d <;> first | rfl | exact absurd rfl (h1 _) | exact absurd rfl (h2 _ _)
theorem run_isAgg {t : TypeId} {d : TypeDesc} (h : P.underlying t = some d) (w : World) : (isAgg t).run P w = .ok (aggD d) w := by
  simp only [isAgg, Sem.run_bind, run_underlying h, Result.andThen_ok]
  cases d <;> rfl
theorem run_size {t : TypeId} {i : TypeInfo} (h : P.info? t = some i) (w : World) : (sizeOf t).run P w = .ok i.size w := by
  simp [sizeOf, typeInfo, h]
theorem run_info {t : TypeId} {i : TypeInfo} (h : P.info? t = some i) (w : World) : (typeInfo t).run P w = .ok i w := by
  simp [typeInfo, h]
theorem run_zero {t : TypeId} {z : Value} (h : (P.info? t).bind (·.zero) = some z) (w : World) : (zeroValue t).run P w = .ok z w := by
  cases hi : P.info? t with
  | none => simp [hi] at h
  | some i => simp [hi] at h; simp [zeroValue, typeInfo, hi, h]
theorem zeroA_inv {t : TypeId} {z : AV} (h : zeroA P t = some z) : ∃ x i, P.info? t = some i ∧ i.zero = some x ∧ z = ofV x ∧ z.isDead = false ∧ (P.info? t).bind (·.zero) = some x := by
  unfold zeroA at h
  cases hi : P.info? t with
  | none => simp [hi] at h
  | some i =>
    simp only [hi, Option.bind_some, Option.bind_eq_some_iff] at h
    obtain ⟨x, hx, h⟩ := h
    split at h
    · cases h
    · rename_i hd
      cases h
      exact ⟨x, i, rfl, hx, rfl, by simpa using hd, by simp [hx]⟩

theorem un_sound {op : UnOp} {v r : AV} {x : Value} (h : unA op v = some r) (hv : VR M v x) : ∃ y, (Op.unary op x).run P w = .ok y w ∧ VR M r y := by
  unfold unA at h
  split at h
  · cases h; cases hv; exact ⟨_, rfl, .int _ _⟩
  · cases h; cases hv; exact ⟨_, rfl, .int _ _⟩
  · cases h; cases hv; exact ⟨_, rfl, .bool _⟩
  · cases h

theorem conv_sound {s d : TypeId} {v r : AV} {x : Value} (h : convA P s d v = some r) (hv : VR M v x) : ∃ y, (convert s d x).run P w = .ok y w ∧ VR M r y := by
  unfold convA at h
  split at h
  · rename_i h1 h2
    cases h; cases hv
    exact ⟨_, by simp [convert, run_underlying h1, run_underlying h2, Conv.intToInt], .int _ _⟩
  · cases h

theorem min_sound {a b r : AV} {x y : Value} (h : minA a b = some r) (hx : VR M a x) (hy : VR M b y) : ∃ z, (Builtin.min2 x y).run P w = .ok z w ∧ VR M r z := by
  unfold minA at h
  split at h
  · cases h; cases hx; cases hy; exact ⟨_, rfl, .int _ _⟩
  · cases h
theorem max_sound {a b r : AV} {x y : Value} (h : maxA a b = some r) (hx : VR M a x) (hy : VR M b y) : ∃ z, (Builtin.max2 x y).run P w = .ok z w ∧ VR M r z := by
  unfold maxA at h
  split at h
  · cases h; cases hx; cases hy; exact ⟨_, rfl, .int _ _⟩
  · cases h

theorem len_sound {t : TypeId} {v r : AV} {x : Value} (h : lenA P t v = some r) (hv : VR M v x) (ts : Array TypeId) (ht : ts[0]? = some t) (ty : TypeId) :
    ∃ y, (Builtin.len_ ts ty #[x]).run P w = .ok y w ∧ VR M r y := by
  unfold lenA at h
  split at h <;> (try cases h) <;> rename_i h1
  · cases hv; exact ⟨_, by simp [Builtin.len_, ht, run_underlying h1, goInt], .int _ _⟩
  · cases hv; exact ⟨_, by simp [Builtin.len_, ht, run_underlying h1, goInt], .int _ _⟩
  · cases hv; exact ⟨_, by simp [Builtin.len_, ht, run_underlying h1, goInt], .int _ _⟩
  · cases hv; exact ⟨_, by simp [Builtin.len_, ht, run_underlying h1, goInt], .int _ _⟩

theorem VRs.extract {cs : List AV} {xs : Array Value} (h : VRs M cs xs) (a b : Nat) : VRs M ((cs.drop a).take b) (xs.extract a (a + b)) := by
  have hl := h.1
  refine ⟨by simp; omega, ?_⟩
  intro i x hx
  rw [List.getElem?_take] at hx
  split at hx
  · rw [List.getElem?_drop] at hx
    obtain ⟨y, hy, hv⟩ := h.2 _ _ hx
    refine ⟨y, ?_, hv⟩
    rw [Array.getElem?_extract, if_pos]
    · exact hy
    · have := (Array.getElem?_eq_some_iff.1 hy).1; omega
  · cases hx

theorem part_sound {t : TypeId} {cs : List AV} {off : Nat} {r : AV} {xs : Array Value} (h : partA P t cs off = some r) (hv : VRs M cs xs) :
    ∃ y, (part t xs off).run P w = .ok y w ∧ VR M r y := by
  unfold partA at h
  split at h
  · rename_i i d hi hd
    have hagg := run_isAgg hd w
    split at h
    · cases h
      simp only [aggD] at hagg
      exact ⟨_, by simp [part, hagg, run_size hi], .agg' (hv.extract _ _)⟩
    · cases h
      simp only [aggD] at hagg
      exact ⟨_, by simp [part, hagg, run_size hi], .agg' (hv.extract _ _)⟩
    · rename_i hn1 hn2
      obtain ⟨y, hy, hvy⟩ := hv.2 _ _ h
      refine ⟨y, ?_, hvy⟩
      rw [aggD_false hn1 hn2] at hagg
      simp [part, hagg, hy]
  · cases h

theorem field_sound {s : TypeId} {v r : AV} {f : Nat} {x : Value} (h : fieldA P s v f = some r) (hv : VR M v x) : ∃ y, (Instr.field s x f).run P w = .ok y w ∧ VR M r y := by
  unfold fieldA at h
  split at h
  · rename_i fields cs hs
    obtain ⟨xs, rfl, hxs⟩ := hv.agg_inv
    simp only [Option.bind_eq_some_iff] at h
    obtain ⟨fd, hfd, hp⟩ := h
    obtain ⟨y, hy, hvy⟩ := part_sound (w := w) hp hxs
    exact ⟨y, by simp [Instr.field, run_underlying hs, hfd, asAgg, hy], hvy⟩
  · cases h

theorem index_sound {t : TypeId} {v i r : AV} {x j : Value} (h : indexA P t v i = some r) (hv : VR M v x) (hi : VR M i j) : ∃ y, (Instr.index t x j).run P w = .ok y w ∧ VR M r y := by
  unfold indexA at h
  split at h
  · rename_i len elem cs k n ht
    obtain ⟨xs, rfl, hxs⟩ := hv.agg_inv
    cases hi
    split at h
    · rename_i e he
      split at h
      · rename_i hb
        obtain ⟨y, hy, hvy⟩ := part_sound (w := w) h hxs
        exact ⟨y, by simp [Instr.index, asIntOf, run_underlying ht, hb, run_size he, hy], hvy⟩
      · cases h
    · cases h
  · rename_i s k n ht
    cases hv; cases hi
    split at h
    · rename_i hb
      split at h
      · rename_i b hb'
        cases h
        exact ⟨_, by simp [Instr.index, asIntOf, run_underlying ht, hb, hb'], .int _ _⟩
      · cases h
    · cases h
  · cases h

theorem VR.ptr_inv {id off ver : Nat} {x : Value} (h : VR M (.ptr id off ver) x) : ∃ pl, M id ver = some pl ∧ x = .pointer (some ⟨pl.blk, pl.base + off, none⟩) := by
  cases h with | ptr _ _ _ pl h => exact ⟨pl, h, rfl⟩

theorem fieldAddr_sound {s : TypeId} {v r : AV} {f : Nat} {x : Value} (h : fieldAddrA P s v f = some r) (hv : VR M v x) : ∃ y, (Instr.fieldAt s x f).run P w = .ok y w ∧ VR M r y := by
  unfold fieldAddrA at h
  split at h
  · rename_i fields id off ver hs
    obtain ⟨pl, hp, rfl⟩ := hv.ptr_inv
    split at h
    · rename_i fd hfd
      split at h
      · rename_i i hi
        split at h
        · rename_i hz
          cases h
          refine ⟨_, ?_, .ptr _ _ _ pl hp⟩
          simp [Instr.fieldAt, run_underlying hs, hfd, Instr.sureAddr, fieldPlace, run_size hi, hz, Addr.add_lit, Nat.add_assoc]
        · cases h
      · cases h
    · cases h
  · cases h

theorem indexAddr_sound {t : TypeId} {v i r : AV} {x j : Value} (h : indexAddrA P t v i = some r) (hv : VR M v x) (hi : VR M i j) : ∃ y, (Instr.indexAt t x j).run P w = .ok y w ∧ VR M r y := by
  unfold indexAddrA at h
  split at h
  · rename_i elem id off len ver sz k n ht
    cases hi
    split at h
    · rename_i e he
      split at h
      · rename_i hb
        cases h
        obtain ⟨hb1, hb2, hb3⟩ := hb
        cases hv with
        | sl _ _ _ _ _ cap a pl hp hs hc hl hee ha =>
          have hcap : cap ≠ 0 := by omega
          refine ⟨.pointer (some ⟨pl.blk, pl.base + (off + n.toNat) * sz, none⟩), ?_, .ptr _ _ _ pl hp⟩
          rw [ha hcap]
          simp [Instr.indexAt, asIntOf, run_underlying ht, hb1, hb2, run_size he, hb3, Addr.add_lit, Nat.add_mul, Nat.add_assoc]
      · cases h
    · cases h
  · rename_i len elem id off ver k n ht
    cases hi
    obtain ⟨pl, hp, rfl⟩ := hv.ptr_inv
    split at h
    · rename_i e he
      split at h
      · rename_i hb
        cases h
        refine ⟨_, ?_, .ptr _ _ _ pl hp⟩
        simp [Instr.indexAt, asIntOf, run_underlying ht, Instr.sureAddr, hb, run_size he, Addr.add_lit, Nat.add_assoc]
      · cases h
    · cases h
  · cases h

theorem bound_sound {d : Nat} {o : Option AV} {n : Nat} (h : boundA d o = some n) {ov : Option Value} (ho : ∀ v, o = some v → ∃ x, ov = some x ∧ VR M v x) (hn : o = none → ov = none)
    (y : Nat) (code : BoundsCode) (hy : n ≤ y) :
    (match ov with | some v => Instr.sliceBound v y code | none => pure d).run P w = .ok n w := by
  cases o with
  | none =>
    simp only [boundA, Option.some.injEq] at h
    subst h
    rw [hn rfl]
    rfl
  | some v =>
    obtain ⟨x, rfl, hv⟩ := ho v rfl
    cases v <;> simp only [boundA] at h <;> try cases h
    rename_i k m
    cases hv
    split at h
    · rename_i h0
      cases h
      have : m ≤ (y : Int) := by omega
      simp [Instr.sliceBound, asIntOf, h0, this]
    · cases h

theorem slice_sound {t : TypeId} {v r : AV} {lo hi : Option AV} {x : Value} {lo' hi' : Option Value} (h : sliceA P t v lo hi = some r) (hv : VR M v x)
    (hlo : ∀ v, lo = some v → ∃ x, lo' = some x ∧ VR M v x) (hlo0 : lo = none → lo' = none) (hhi : ∀ v, hi = some v → ∃ x, hi' = some x ∧ VR M v x) (hhi0 : hi = none → hi' = none) :
    ∃ y, (Instr.sliceAt t x lo' hi' none).run P w = .ok y w ∧ VR M r y := by
  unfold sliceA at h
  split at h
  · rename_i elem id off len ver sz ht
    split at h
    · rename_i l hh i hl hhh hi
      split at h
      · rename_i hb
        cases h
        obtain ⟨hb1, hb2, hb3⟩ := hb
        cases hv with
        | sl _ _ _ _ _ cap a pl hp hs hc hl' hee ha =>
          have r1 := bound_sound (P := P) (w := w) (M := M) hhh hhi hhi0 cap .sliceAcap (by omega)
          have r2 := bound_sound (P := P) (w := w) (M := M) hl hlo hlo0 hh .sliceB hb1
          have e : (Instr.sliceBounds true len cap lo' hi' none).run P w = .ok (l, hh, cap) w := by
            unfold Instr.sliceBounds
            simp only [Sem.run_bind, Sem.run_pure, Result.andThen_ok]
            cases hi' with
            | none =>
              simp only [Sem.run_pure, Result.ok.injEq, and_true] at r1
              subst r1
              simp only [Sem.run_pure, Result.andThen_ok, Option.isSome_none, Bool.false_eq_true, if_false]
              cases lo' with
              | none => simp only [Sem.run_pure, Result.ok.injEq, and_true] at r2; subst r2; rfl
              | some z => simp only at r2; simp [r2]
            | some z' =>
              simp only at r1
              cases lo' with
              | none => simp only [Sem.run_pure, Result.ok.injEq, and_true] at r2; subst r2; simp [r1]
              | some z => simp only at r2; simp [r1, r2]
          refine ⟨.slice (some (if cap = l then a else a.add (l * i.size))) (hh - l) (cap - l), ?_, ?_⟩
          · simp only [Instr.sliceAt, Instr.slice, Sem.run_bind, run_underlying ht, Result.andThen_ok, e, run_size hi]
            by_cases hcl : cap = l <;> simp [hcl]
          · refine .sl id (off + l) (hh - l) ver sz (cap - l) _ pl hp hs (by omega) (by omega) ?_ ?_
            · exact Nat.le_trans (Nat.mul_le_mul_right _ (by omega)) hee
            · intro hne
              rw [if_neg (by omega), ha (by omega), Addr.add_lit, hb3, Nat.add_mul, Nat.add_assoc]
      · cases h
    · cases h
  · rename_i elem ht
    split at h
    · rename_i i hl hh hi
      cases h
      cases hv
      have r1 := bound_sound (P := P) (w := w) (M := M) hh hhi hhi0 0 .sliceAcap (Nat.le_refl _)
      have r2 := bound_sound (P := P) (w := w) (M := M) hl hlo hlo0 0 .sliceB (Nat.le_refl _)
      have e : (Instr.sliceBounds true 0 0 lo' hi' none).run P w = .ok (0, 0, 0) w := by
        unfold Instr.sliceBounds
        simp only [Sem.run_bind, Sem.run_pure, Result.andThen_ok]
        cases hi' with
        | none =>
          simp only [Sem.run_pure, Result.andThen_ok, Option.isSome_none, Bool.false_eq_true, if_false]
          cases lo' with
          | none => rfl
          | some z => simp only at r2; simp [r2]
        | some z' =>
          simp only at r1
          cases lo' with
          | none => simp [r1]
          | some z => simp only at r2; simp [r1, r2]
      exact ⟨.slice none 0 0, by simp [Instr.sliceAt, Instr.slice, run_underlying ht, e, run_size hi], .nilsl⟩
    · cases h
  · rename_i elem ht
    split at h
    · rename_i i hl hh hi
      cases h
      cases hv
      rename_i aa
      have r1 := bound_sound (P := P) (w := w) (M := M) hh hhi hhi0 0 .sliceAcap (Nat.le_refl _)
      have r2 := bound_sound (P := P) (w := w) (M := M) hl hlo hlo0 0 .sliceB (Nat.le_refl _)
      have e : (Instr.sliceBounds true 0 0 lo' hi' none).run P w = .ok (0, 0, 0) w := by
        unfold Instr.sliceBounds
        simp only [Sem.run_bind, Sem.run_pure, Result.andThen_ok]
        cases hi' with
        | none =>
          simp only [Sem.run_pure, Result.andThen_ok, Option.isSome_none, Bool.false_eq_true, if_false]
          cases lo' with
          | none => rfl
          | some z => simp only at r2; simp [r2]
        | some z' =>
          simp only at r1
          cases lo' with
          | none => simp [r1]
          | some z => simp only at r2; simp [r1, r2]
      exact ⟨.slice (some aa) 0 0, by simp [Instr.sliceAt, Instr.slice, run_underlying ht, e, run_size hi], .esl aa⟩
    · cases h
  · cases h

end Go.Va
end

section
set_option linter.unusedSimpArgs false
set_option linter.unusedVariables false
set_option linter.unusedSectionVars false
namespace Go.Va

variable {P : Program} {M : Plc} {w : World}

theorem eqCells_len : ∀ {ks : List Bool} {xs ys : List AV} {r : Bool}, eqCells ks xs ys = some r → xs.length = ks.length ∧ ys.length = ks.length
  | [], [], [], _, _ => ⟨rfl, rfl⟩
  | true :: ks, .int j a :: xs, .int k b :: ys, r, h => by
    simp only [eqCells] at h
    split at h
    · simp only [Option.map_eq_some_iff] at h
      obtain ⟨r', h', _⟩ := h
      simp [eqCells_len h']
    · cases h
  | false :: ks, .bool a :: xs, .bool b :: ys, r, h => by
    simp only [eqCells, Option.map_eq_some_iff] at h
    obtain ⟨r', h', _⟩ := h
    simp [eqCells_len h']

/-- What the comparison of two rows comes to, cell by cell. -/
theorem eqFields_sound : ∀ (fs : List Field) (ks : List Bool) (k d : Nat) (xs ys : Array Value) (cs ds : List AV) (r : Bool),
    (∀ (i : Nat) (f : Field), fs[i]? = some f → f.name ≠ "_" ∧ f.offset = k + i ∧ ((ks[i]? = some true ∧ ∃ kd, P.underlying f.type = some (.int kd)) ∨ (ks[i]? = some false ∧ P.underlying f.type = some .bool))) →
    ks.length = fs.length → eqCells ks cs ds = some r →
    (∀ (i : Nat) (x : AV), cs[i]? = some x → ∃ y, xs[k + i]? = some y ∧ VR M x y) → (∀ (i : Nat) (x : AV), ds[i]? = some x → ∃ y, ys[k + i]? = some y ∧ VR M x y) →
    (Op.eqFields (d + 1) xs ys fs).run P w = .ok r w := by
  intro fs
  induction fs with
  | nil =>
    intro ks k d xs ys cs ds r _ hl he _ _
    obtain rfl : ks = [] := List.eq_nil_of_length_eq_zero (by simpa using hl)
    have hc := eqCells_len he
    obtain rfl : cs = [] := List.eq_nil_of_length_eq_zero (by simpa using hc.1)
    obtain rfl : ds = [] := List.eq_nil_of_length_eq_zero (by simpa using hc.2)
    simp [eqCells] at he; subst he; simp [Op.eqFields]
  | cons f fs ihfs =>
    intro ks k d xs ys cs ds r hf hl he hx hy
    obtain ⟨hn, ho, ht⟩ := hf 0 f rfl
    have hnd : ∃ dd, P.underlying f.type = some dd ∧ aggD dd = false := by
      rcases ht with ⟨_, kd, h⟩ | ⟨_, h⟩
      · exact ⟨_, h, rfl⟩
      · exact ⟨_, h, rfl⟩
    obtain ⟨dd, hdd, hag⟩ := hnd
    have hagg := run_isAgg hdd w
    rw [hag] at hagg
    have hc := eqCells_len he
    cases ks with
    | nil => simp at hl
    | cons kb ks =>
      cases cs with
      | nil => simp at hc
      | cons c cs =>
        cases ds with
        | nil => simp at hc
        | cons c' ds =>
          obtain ⟨x, hxx, hvx⟩ := hx 0 c rfl
          obtain ⟨y, hyy, hvy⟩ := hy 0 c' rfl
          simp only [Nat.add_zero] at ho hxx hyy
          have ih := fun r' h' => ihfs ks (k + 1) d xs ys cs ds r' (fun i f' hi => by have := hf (i + 1) f' hi; rwa [show k + 1 + i = k + (i + 1) by omega])
            (by simpa using hl) h' (fun i z hz => by have := hx (i + 1) z hz; rwa [show k + 1 + i = k + (i + 1) by omega]) (fun i z hz => by have := hy (i + 1) z hz; rwa [show k + 1 + i = k + (i + 1) by omega])
          have p1 : (part f.type xs f.offset).run P w = .ok x w := by simp [part, hagg, ho, hxx]
          have p2 : (part f.type ys f.offset).run P w = .ok y w := by simp [part, hagg, ho, hyy]
          simp only [Op.eqFields, hn, ne_eq, not_false_eq_true, if_true, Sem.run_bind, p1, p2, Result.andThen_ok]
          unfold eqCells at he
          split at he
          · rename_i h1 h2 h3; cases h1
          · rename_i ks' j a xs' kk b ys' h1 h2 h3
            cases h1; cases h2; cases h3
            rcases ht with ⟨_, kd, hb⟩ | ⟨h0, _⟩
            · split at he
              · rename_i hk
                subst hk
                simp only [Option.map_eq_some_iff] at he
                obtain ⟨r', hr', rfl⟩ := he
                cases hvx; cases hvy
                rw [run_equalIn_int w d f.type j kd a b hb]
                simp only [Result.andThen_ok, Sem.run_ite, Sem.run_pure, ih r' hr']
                cases hab : (a == b) <;> simp
              · cases he
            · simp at h0
          · rename_i ks' a xs' b ys' h1 h2 h3
            cases h1; cases h2; cases h3
            rcases ht with ⟨h0, _⟩ | ⟨_, hb⟩
            · simp at h0
            · simp only [Option.map_eq_some_iff] at he
              obtain ⟨r', hr', rfl⟩ := he
              cases hvx; cases hvy
              rw [run_equalIn_bool' w d f.type a b hb]
              simp only [Result.andThen_ok, Sem.run_ite, Sem.run_pure, ih r' hr']
              cases hab : (a == b) <;> simp
          · cases he

/-- Structs are equal as their cells are. -/
theorem eqAgg_sound {t : TypeId} {ks : List Bool} (hp : PlainEq P t ks) {cs ds : List AV} {r : Bool} (he : eqCells ks cs ds = some r) {xs ys : Array Value} (hx : VRs M cs xs) (hy : VRs M ds ys) (d : Nat) :
    (Op.equalIn (d + 2) t (.agg xs) (.agg ys)).run P w = .ok r w := by
  obtain ⟨fs, hfs, hkl, hf⟩ := hp.fields
  have hfo : P.fieldsOf t = fs := by simp [Program.fieldsOf, hfs]
  rw [run_equalIn_struct w (d + 1) t xs ys (by rw [hfo]; exact hfs) hp.stood, hfo]
  exact eqFields_sound (M := M) fs.toList ks 0 d xs ys cs ds r (fun i f hi => by have := hf i f (by simpa using hi); rwa [Nat.zero_add]) (by simpa using hkl) he
    (fun i x hi => by rw [Nat.zero_add]; exact hx.2 i x hi) (fun i x hi => by rw [Nat.zero_add]; exact hy.2 i x hi)

theorem VR.sl_inv {id off len ver sz : Nat} {x : Value} (h : VR M (.sl id off len ver sz) x) : ∃ a cap pl, x = .slice (some a) len cap ∧ M id ver = some pl ∧ pl.sz = sz ∧ off + cap = pl.cap ∧ len ≤ cap ∧
    (off + len) * sz ≤ ver ∧ (cap ≠ 0 → a = ⟨pl.blk, pl.base + off * sz, none⟩) := by
  cases h with | sl _ _ _ _ _ cap a pl hp hs hc hl he ha => exact ⟨a, cap, pl, rfl, hp, hs, hc, hl, he, ha⟩

theorem eqIn_bool {t : TypeId} (h : P.underlying t = some .bool) (d : Nat) (a b : Bool) : (Op.equalIn (d + 1) t (.bool a) (.bool b)).run P w = .ok (a == b) w := by
  simp only [Op.equalIn, Sem.run_bind, run_underlying h, Result.andThen_ok]; rfl
theorem eqIn_ptr {t e : TypeId} (h : P.underlying t = some (.pointer e)) (d : Nat) (b : Option Addr) : (Op.equalIn (d + 1) t (.pointer none) (.pointer b)).run P w = .ok b.isNone w := by
  simp only [Op.equalIn, Sem.run_bind, run_underlying h, Result.andThen_ok]; rfl
theorem eqIn_ptr' {t e : TypeId} (h : P.underlying t = some (.pointer e)) (d : Nat) (a : Addr) : (Op.equalIn (d + 1) t (.pointer (some a)) (.pointer none)).run P w = .ok false w := by
  simp only [Op.equalIn, Sem.run_bind, run_underlying h, Result.andThen_ok]; rfl
theorem eqIn_sl {t e : TypeId} (h : P.underlying t = some (.slice e)) (d n c m k : Nat) (b : Option Addr) : (Op.equalIn (d + 1) t (.slice none n c) (.slice b m k)).run P w = .ok b.isNone w := by
  simp only [Op.equalIn, Sem.run_bind, run_underlying h, Result.andThen_ok]; rfl
theorem eqIn_sl' {t e : TypeId} (h : P.underlying t = some (.slice e)) (d n c m k : Nat) (a : Addr) : (Op.equalIn (d + 1) t (.slice (some a) n c) (.slice none m k)).run P w = .ok false w := by
  simp only [Op.equalIn, Sem.run_bind, run_underlying h, Result.andThen_ok]; rfl
theorem eqIn_map {t k e : TypeId} (h : P.underlying t = some (.map k e)) (d : Nat) (b : Option Nat) : (Op.equalIn (d + 1) t (.map none) (.map b)).run P w = .ok b.isNone w := by
  simp only [Op.equalIn, Sem.run_bind, run_underlying h, Result.andThen_ok]; rfl
theorem eqIn_map' {t k e : TypeId} (h : P.underlying t = some (.map k e)) (d : Nat) (a : Nat) : (Op.equalIn (d + 1) t (.map (some a)) (.map none)).run P w = .ok false w := by
  simp only [Op.equalIn, Sem.run_bind, run_underlying h, Result.andThen_ok]; rfl

theorem eq_sound {C : Ctx} (hC : C.ok) {t : TypeId} {u v : AV} {r : Bool} (h : eqA C t u v = some r) {x y : Value} (hx : VR M u x) (hy : VR M v y) (X Y : Operand) (op : BinOp) (hop : op = .eql ∨ op = .neq) :
    (eqGuard op t X Y x y).run C.P w = .ok () w ∧ (Op.equal t x y).run C.P w = .ok r w := by
  unfold eqA at h
  split at h
  · split at h
    · rename_i ht
      cases h; cases hx; cases hy
      exact ⟨by rcases hop with rfl | rfl <;> simp [eqGuard], eqIn_bool ht 9999 _ _⟩
    · cases h
  · split at h
    · rename_i ht
      cases h; cases hx; cases hy
      exact ⟨by rcases hop with rfl | rfl <;> simp [eqGuard], eqIn_ptr ht 9999 none⟩
    · cases h
  · split at h
    · rename_i ht
      cases h; cases hx; cases hy
      exact ⟨by rcases hop with rfl | rfl <;> simp [eqGuard], eqIn_ptr ht 9999 (some _)⟩
    · cases h
  · split at h
    · rename_i ht
      cases h; cases hx; cases hy
      exact ⟨by rcases hop with rfl | rfl <;> simp [eqGuard], eqIn_ptr' ht 9999 _⟩
    · cases h
  · split at h
    · rename_i ht
      cases h; cases hx; cases hy
      exact ⟨by rcases hop with rfl | rfl <;> simp [eqGuard], eqIn_sl ht 9999 0 0 0 0 none⟩
    · cases h
  · split at h
    · rename_i ht
      cases h; cases hx; cases hy
      exact ⟨by rcases hop with rfl | rfl <;> simp [eqGuard], eqIn_sl ht 9999 0 0 _ _ (some _)⟩
    · cases h
  · split at h
    · rename_i ht
      cases h; cases hx; cases hy
      exact ⟨by rcases hop with rfl | rfl <;> simp [eqGuard], eqIn_sl' ht 9999 _ _ 0 0 _⟩
    · cases h
  · split at h
    · rename_i ht
      cases h; cases hx; cases hy
      exact ⟨by rcases hop with rfl | rfl <;> simp [eqGuard], eqIn_sl ht 9999 0 0 0 0 (some _)⟩
    · cases h
  · split at h
    · rename_i ht
      cases h; cases hx; cases hy
      exact ⟨by rcases hop with rfl | rfl <;> simp [eqGuard], eqIn_sl' ht 9999 0 0 0 0 _⟩
    · cases h
  · split at h
    · rename_i ht
      cases h; cases hx; cases hy
      exact ⟨by rcases hop with rfl | rfl <;> simp [eqGuard], eqIn_map ht 9999 none⟩
    · cases h
  · split at h
    · rename_i ht
      cases h; cases hx; cases hy
      exact ⟨by rcases hop with rfl | rfl <;> simp [eqGuard], eqIn_map ht 9999 (some _)⟩
    · cases h
  · split at h
    · rename_i ht
      cases h; cases hx; cases hy
      exact ⟨by rcases hop with rfl | rfl <;> simp [eqGuard], eqIn_map' ht 9999 _⟩
    · cases h
  · simp only [Option.bind_eq_some_iff] at h
    obtain ⟨ks, hk, he⟩ := h
    obtain ⟨xs, rfl, hxs⟩ := hx.agg_inv
    obtain ⟨ys, rfl, hys⟩ := hy.agg_inv
    have hp := hC.eq t ks hk
    exact ⟨run_eqGuard_agg w op t X Y xs ys hp.guard, eqAgg_sound hp he hxs hys 9998⟩
  · cases h

theorem eqBin {C : Ctx} {t : TypeId} {u v : AV} {r : Bool} (h : eqA C t u v = some r) {x y : Value} (hx : VR M u x) (hy : VR M v y) :
    (binOp .eql t x y = Op.equal t x y >>= fun b => pure (.bool b)) ∧ (binOp .neq t x y = Op.equal t x y >>= fun b => pure (.bool (!b))) := by
  unfold eqA at h
  split at h
  all_goals first
    | (cases hx; cases hy; exact ⟨rfl, rfl⟩)
    | (cases h)

theorem bin_sound {C : Ctx} (hC : C.ok) {op : BinOp} {t : TypeId} {u v r : AV} (h : binA C op t u v = some r) {x y : Value} (hx : VR M u x) (hy : VR M v y) (X Y : Operand) :
    ∃ z, (eqGuard op t X Y x y >>= fun _ => binOp op t x y).run C.P w = .ok z w ∧ VR M r z := by
  have lift : ∀ {op : BinOp} {u v : AV} {r : AV} {x y : Value}, (VR M u x) → (VR M v y) →
      (match op with | .eql => (eqA C t u v).map AV.bool | .neq => (eqA C t u v).map fun r => .bool (!r) | _ => none) = some r →
      ∃ z, (eqGuard op t X Y x y >>= fun _ => binOp op t x y).run C.P w = .ok z w ∧ VR M r z := by
    intro op u v r x y hx hy h
    cases op <;> simp only at h <;> try (cases h)
    · simp only [Option.map_eq_some_iff] at h
      obtain ⟨b, hb, rfl⟩ := h
      obtain ⟨h1, h2⟩ := eq_sound (w := w) hC hb hx hy X Y .eql (.inl rfl)
      exact ⟨.bool b, by simp only [Sem.run_bind, h1, Result.andThen_ok, (eqBin hb hx hy).1, h2, Sem.run_pure], .bool b⟩
    · simp only [Option.map_eq_some_iff] at h
      obtain ⟨b, hb, rfl⟩ := h
      obtain ⟨h1, h2⟩ := eq_sound (w := w) hC hb hx hy X Y .neq (.inr rfl)
      exact ⟨.bool (!b), by simp only [Sem.run_bind, h1, Result.andThen_ok, (eqBin hb hx hy).2, h2, Sem.run_pure], .bool _⟩
  unfold binA at h
  split at h
  · rename_i k a k' b
    cases hx; cases hy
    have hg : (eqGuard op t X Y (.int k a) (.int k' b)).run C.P w = .ok () w := by cases op <;> simp [eqGuard]
    simp only [Sem.run_bind, hg, Result.andThen_ok]
    split at h
    case h_1 | h_2 =>
      split at h
      · cases h
      · rename_i hb
        cases h
        exact ⟨_, by simp [binOp, Op.shift, hb], .int _ _⟩
    case h_6 | h_7 =>
      split at h
      · rename_i hb
        obtain ⟨rfl, hb⟩ := hb
        cases h
        exact ⟨_, by simp [binOp, Op.intDiv, hb], .int _ _⟩
      · cases h
    all_goals
      split at h
      · rename_i hb
        subst hb
        cases h
        first
        | (refine ⟨_, ?_, .int _ _⟩; simp only [binOp, ne_eq, not_true_eq_false, if_false]; rfl)
        | (refine ⟨_, ?_, .bool _⟩; simp only [binOp, ne_eq, not_true_eq_false, if_false]; rfl)
      · cases h
  · rename_i hne
    exact lift hx hy h

theorem putAll_len : ∀ (vs : List AV) (c : List AV) (o : Nat), (putAll c o vs).length = c.length
  | [], _, _ => rfl
  | v :: vs, c, o => by simp [putAll, putAll_len vs]
theorem putAll_get : ∀ (vs : List AV) (c : List AV) (o i : Nat), o + vs.length ≤ c.length → (putAll c o vs)[i]? = if o ≤ i ∧ i < o + vs.length then vs[i - o]? else c[i]?
  | [], c, o, i, _ => by
    simp only [putAll, List.length_nil, Nat.add_zero]
    rw [if_neg (by omega)]
  | v :: vs, c, o, i, h => by
    simp only [List.length_cons] at h
    rw [putAll, putAll_get vs _ _ _ (by simp; omega)]
    simp only [List.length_cons]
    by_cases h1 : i = o
    · subst h1
      rw [if_neg (by omega), if_pos (by omega), List.getElem?_set_self (by omega)]
      simp
    · rw [List.getElem?_set_ne (Ne.symm h1)]
      by_cases h2 : o + 1 ≤ i ∧ i < o + 1 + vs.length
      · rw [if_pos h2, if_pos (by omega), show i - o = (i - (o + 1)) + 1 by omega, List.getElem?_cons_succ]
      · rw [if_neg h2, if_neg (by omega)]

/-- The cells of a row written over, in the model: as 'fill' does it. -/
theorem foldl_set (xs : Array Value) : ∀ (vs : List (Value × Nat)) (cells : Array Value) (off : Nat),
    (vs.foldl (fun cs (p : Value × Nat) => cs.setIfInBounds (off + p.2) p.1) cells).size = cells.size
  | [], _, _ => rfl
  | v :: vs, cells, off => by simp [foldl_set xs vs]

theorem fold_get (off : Nat) : ∀ (l : List Value) (n : Nat) (cells : Array Value) (i : Nat), off + n + l.length ≤ cells.size →
    ((l.zipIdx n).foldl (fun cs (p : Value × Nat) => cs.setIfInBounds (off + p.2) p.1) cells)[i]? = if off + n ≤ i ∧ i < off + n + l.length then l[i - (off + n)]? else cells[i]?
  | [], n, cells, i, _ => by
    simp only [List.zipIdx_nil, List.foldl_nil, List.length_nil, Nat.add_zero]
    rw [if_neg (by omega)]
  | v :: l, n, cells, i, h => by
    simp only [List.length_cons] at h
    simp only [List.zipIdx_cons, List.foldl_cons]
    rw [fold_get off l (n + 1) _ i (by simp; omega)]
    simp only [List.length_cons]
    by_cases h1 : i = off + n
    · subst h1
      rw [if_neg (by omega), if_pos (by omega), Array.getElem?_setIfInBounds_self_of_lt (by omega)]
      simp
    · rw [Array.getElem?_setIfInBounds_ne (Ne.symm h1)]
      by_cases h2 : off + (n + 1) ≤ i ∧ i < off + (n + 1) + l.length
      · rw [if_pos h2, if_pos (by omega), show i - (off + n) = (i - (off + (n + 1))) + 1 by omega, List.getElem?_cons_succ]
      · rw [if_neg h2, if_neg (by omega)]

theorem fill_sound (place : Nat → Option (Nat × Nat)) : ∀ (ps : List (Nat × AV)) (qs : List (Nat × Value)) (c r : List AV) (cells : Array Value),
    ps.length = qs.length → (∀ (i : Nat) p, ps[i]? = some p → ∃ q, qs[i]? = some q ∧ q.1 = p.1 ∧ VR M p.2 q.2) → VRs M c cells → fillA place c ps = some r →
    ∃ cells', Instr.fill place cells qs = some cells' ∧ VRs M r cells'
  | [], [], c, r, cells, _, _, hc, h => by
    simp only [fillA, Option.some.injEq] at h
    subst h
    exact ⟨cells, rfl, hc⟩
  | (i, v) :: ps, q :: qs, c, r, cells, hl, hr, hc, h => by
    obtain ⟨q', hq, h1, hv⟩ := hr 0 _ rfl
    simp only [List.getElem?_cons_zero, Option.some.injEq] at hq
    subst hq
    obtain ⟨i', x⟩ := q
    simp only at h1 hv
    subst h1
    simp only [fillA] at h
    cases hp : place i' with
    | none => simp [hp] at h
    | some os =>
      obtain ⟨off, size⟩ := os
      simp only [hp] at h
      split at h
      · cases h
      · rename_i hn
        simp only [not_or] at hn
        obtain ⟨hd, hsz, hfit⟩ := hn
        have hcells := hv.cells (by simpa using hd)
        have hl1 := hcells.1
        have hl2 := hc.1
        have hnew : VRs M (putAll c off v.cells) (x.cells.zipIdx.foldl (fun cs (c, j) => cs.setIfInBounds (off + j) c) cells) := by
          have e : x.cells.zipIdx.foldl (fun cs (p : Value × Nat) => cs.setIfInBounds (off + p.2) p.1) cells =
              (x.cells.toList.zipIdx 0).foldl (fun cs (p : Value × Nat) => cs.setIfInBounds (off + p.2) p.1) cells := by
            rw [← Array.foldl_toList]; simp
          have e' : (x.cells.zipIdx.foldl (fun cs (c, j) => cs.setIfInBounds (off + j) c) cells) = x.cells.zipIdx.foldl (fun cs (p : Value × Nat) => cs.setIfInBounds (off + p.2) p.1) cells := rfl
          rw [e', e]
          refine ⟨by rw [putAll_len, foldl_set #[]]; exact hl2, ?_⟩
          intro k z hz
          rw [putAll_get _ _ _ _ (by omega)] at hz
          rw [fold_get off _ 0 cells k (by simp; omega)]
          simp only [Nat.add_zero, Array.length_toList]
          by_cases hk : off ≤ k ∧ k < off + v.cells.length
          · rw [if_pos hk] at hz
            rw [if_pos (by omega)]
            obtain ⟨y, hy, hvy⟩ := hcells.2 _ _ hz
            exact ⟨y, by simpa using hy, hvy⟩
          · rw [if_neg hk] at hz
            rw [if_neg (by omega)]
            exact hc.2 k z hz
        obtain ⟨cells', h2, h3⟩ := fill_sound place ps qs _ r _ (by simpa using hl) (fun j p hj => hr (j + 1) p hj) hnew h
        refine ⟨cells', ?_, h3⟩
        simp only [Instr.fill, hp]
        rw [if_neg]
        · exact h2
        · simp only [ne_eq, Bool.or_eq_true, decide_eq_true_eq, not_or]
          omega

theorem zero_cells {z : AV} {x : Value} (hz : z = ofV x) (hd : z.isDead = false) : VRs M z.cells x.cells := by
  subst hz
  exact (VR.ofV x).cells hd

end Go.Va
end

section
set_option linter.unusedSimpArgs false
set_option linter.unusedVariables false
set_option linter.unusedSectionVars false
namespace Go.Va

variable {P : Program} {M : Plc} {H : Heap} {w : World}

/-- What an operation leaves: a value, and a world. -/
def Post (M : Plc) (H : Heap) (w : World) (v : AV) (H' : Heap) (x : Value) (w' : World) : Prop :=
  ∃ M', VR M' v x ∧ HR M' H' w' ∧ Fr M H w M' H' w'

theorem Post.same (h : HR M H w) {v : AV} {x : Value} (hv : VR M v x) : Post M H w v H x w := ⟨M, hv, h, .refl M H w⟩

theorem zeros_get {z : List AV} {n i : Nat} (hi : i < n * z.length) : (zeros z n)[i]? = z[i % z.length]? := by
  unfold zeros
  induction n generalizing i with
  | zero => simp at hi
  | succ n ih =>
    simp only [List.replicate_succ, List.flatten_cons]
    by_cases h : i < z.length
    · rw [List.getElem?_append_left h, Nat.mod_eq_of_lt h]
    · rw [List.getElem?_append_right (by omega), ih (by rw [Nat.succ_mul] at hi; omega)]
      congr 1
      rw [Nat.mod_eq_sub_mod (by omega : z.length ≤ i)]
theorem zeros_len (z : List AV) (n : Nat) : (zeros z n).length = n * z.length := by
  unfold zeros; simp

theorem zeroCells_sound {z : AV} {x : Value} (hz : z = ofV x) (hd : z.isDead = false) (n : Nat) : VRs M (zeros z.cells n) (Builtin.zeroCells x.cells n) := by
  have h := zero_cells (M := M) hz hd
  refine ⟨by rw [zeros_len, size_zeroCells, h.1], ?_⟩
  intro i y hy
  have hi : i < n * z.cells.length := by
    have := (List.getElem?_eq_some_iff.1 hy).1
    rwa [zeros_len] at this
  rw [zeros_get hi] at hy
  obtain ⟨x', hx', hv⟩ := h.2 _ _ hy
  refine ⟨x', ?_, hv⟩
  have hlt : i % x.cells.size < x.cells.size := by
    rw [h.1] at hi
    refine Nat.mod_lt _ ?_
    rcases Nat.eq_zero_or_pos x.cells.size with h0 | h0
    · rw [h0] at hi; simp at hi
    · exact h0
  have hb : x.cells[i % x.cells.size]! = x' := by
    rw [h.1] at hx'
    rw [getElem!_pos x.cells _ hlt]
    rw [Array.getElem?_eq_getElem hlt] at hx'
    simpa using hx'
  unfold Builtin.zeroCells
  rw [h.1] at hi
  simp only [Array.getElem?_map]
  rw [Array.getElem?_range]
  rw [if_pos hi]
  simp only [Option.map_some, hb]

theorem rows_eq (x : Value) (n : Nat) : (Array.range (n * x.cells.size)).map (fun i => x.cells[i % x.cells.size]!) = Builtin.zeroCells x.cells n := rfl

theorem load_sound (h : HR M H w) {t : TypeId} {id off ver : Nat} {r : AV} (hl : loadA P t H id off ver = some r) {pl : Pl} (hp : M id ver = some pl) :
    ∃ y, (loadVar t ⟨pl.blk, pl.base + off, none⟩).run P w = .ok y w ∧ VR M r y := by
  unfold loadA at hl
  split at hl
  · rename_i c e born ro i d hid hi hd
    split at hl
    · rename_i hb
      obtain ⟨arr, el, fz, ha, hn, hc, _⟩ := (h.cells id c e born ro hid ver pl hp).2.2 hb.1
      have hcell : ∀ j, w.cell? ⟨pl.blk, j, none⟩ = arr[j]? := fun j => by simp [World.cell?, ha]
      have hagg := run_isAgg hd w
      have many : ∀ n, n = i.size → off + n ≤ ver → (aggD d = true) → ∃ y, (loadVar t ⟨pl.blk, pl.base + off, none⟩).run P w = .ok y w ∧ VR M (.agg ((c.drop off).take n)) y := by
        intro n hn' hfit hag
        rw [hag] at hagg
        have hlen : ((arr.extract (pl.base + off) (pl.base + off + n)).toList).length = n := by simp; omega
        have hrun := run_loadCells_list (P := P) w ⟨pl.blk, pl.base + off, none⟩ (arr.extract (pl.base + off) (pl.base + off + n)).toList (fun j v hj => by
          rw [Addr.add_lit, hcell]
          simp only [Array.getElem?_toList] at hj
          rw [Array.getElem?_extract] at hj
          split at hj
          · exact hj
          · cases hj)
        rw [hlen] at hrun
        refine ⟨.agg (arr.extract (pl.base + off) (pl.base + off + n)), ?_, .agg' ⟨?_, ?_⟩⟩
        · simp only [loadVar, Sem.run_bind, hagg, Result.andThen_ok, if_true, run_size hi, ← hn', hrun, Sem.run_pure]
        · simp; omega
        · intro j x hx
          rw [List.getElem?_take] at hx
          split at hx
          · rename_i hj
            rw [List.getElem?_drop] at hx
            obtain ⟨y, hy, hv⟩ := hc (off + j) x (by omega) hx
            refine ⟨y, ?_, hv⟩
            rw [Array.getElem?_extract, if_pos (by omega), ← hy, Nat.add_assoc]
          · cases hx
      split at hl
      · split at hl
        · cases hl; exact many _ rfl ‹_› rfl
        · cases hl
      · split at hl
        · cases hl; exact many _ rfl ‹_› rfl
        · cases hl
      · rename_i hn1 hn2
        split at hl
        · rename_i hlt
          obtain ⟨y, hy, hv⟩ := hc off r hlt hl
          rw [aggD_false hn1 hn2] at hagg
          exact ⟨y, by simp [loadVar, hagg, hcell, hy], hv⟩
        · cases hl
    · cases hl
  · cases hl

theorem setRow_only (w : World) (g : Nat) (cs : Array Value) : OnlyBlk g w (w.setRow g cs) :=
  ⟨rfl, rfl, rfl, by simp [World.setRow], fun k hk => setRow_other w g k cs hk⟩

/-- Cells written over, on both sides. -/
theorem CellsR.put {c : List AV} {arr : Array Value} (hc : CellsR M c c.length arr 0) {vs : List AV} {xs : Array Value} (hv : VRs M vs xs) (off : Nat) (hfit : off + vs.length ≤ c.length) (hs : c.length ≤ arr.size) :
    CellsR M (putAll c off vs) c.length (arr.toList.take off ++ xs.toList ++ arr.toList.drop (off + xs.toList.length)).toArray 0 ∧
      (arr.toList.take off ++ xs.toList ++ arr.toList.drop (off + xs.toList.length)).toArray.size = arr.size := by
  have hl := hv.1
  constructor
  · intro i x hi hx
    rw [putAll_get _ _ _ _ hfit] at hx
    simp only [Nat.zero_add, List.getElem?_toArray]
    by_cases h1 : off ≤ i ∧ i < off + vs.length
    · rw [if_pos h1] at hx
      obtain ⟨y, hy, hvy⟩ := hv.2 _ _ hx
      refine ⟨y, ?_, hvy⟩
      rw [List.getElem?_append_left (by simp; omega), List.getElem?_append_right (by simp; omega)]
      simp only [List.length_take, Array.length_toList, Array.getElem?_toList]
      rw [Nat.min_eq_left (by omega)]
      exact hy
    · rw [if_neg h1] at hx
      obtain ⟨y, hy, hvy⟩ := hc i x hi hx
      refine ⟨y, ?_, hvy⟩
      simp only [Nat.zero_add] at hy
      by_cases h2 : i < off
      · rw [List.getElem?_append_left (by simp; omega), List.getElem?_append_left (by simp; omega), List.getElem?_take, if_pos h2]
        simpa using hy
      · rw [List.getElem?_append_right (by simp; omega)]
        simp only [List.length_append, List.length_take, Array.length_toList, List.getElem?_drop, Array.getElem?_toList]
        rw [← hy]
        congr 1
        omega
  · simp; omega

theorem VRs.oneCells {vs : List AV} {xs : Array Value} (h : VRs M vs xs) (h1 : vs.all AV.one = true) : ∀ v ∈ xs.toList, v.oneCell' = true := by
  intro v hv
  obtain ⟨i, hi, rfl⟩ := List.getElem_of_mem hv
  simp only [Array.length_toList] at hi
  have := h.get i (by rw [h.1]; exact hi) hi
  simp only [Array.getElem_toList]
  exact this.one_cell ((List.all_eq_true.1 h1) _ (List.getElem_mem _))

theorem store_sound (h : HR M H w) {t : TypeId} {id off ver : Nat} {v : AV} {H' : Heap} (hs : storeA P t H id off ver v = some H') {pl : Pl} (hp : M id ver = some pl) {x : Value} (hv : VR M v x) :
    ∃ w', (storeVar t ⟨pl.blk, pl.base + off, none⟩ x).run P w = .ok () w' ∧ HR M H' w' ∧ Fr M H w M H' w' := by
  unfold storeA at hs
  split at hs
  · rename_i c e born ro i hid hi
    split at hs
    · rename_i hb
      obtain ⟨rfl, rfl, hborn, hsz, hfit, hone⟩ := hb
      cases hs
      have hlt : id < H.length := (List.getElem?_eq_some_iff.1 hid).1
      have hold := h.cells id c e born false hid c.length pl hp
      obtain ⟨arr, el, fz, ha, hn, hc, hr⟩ := hold.2.2 hborn
      obtain ⟨hbase, rfl, hsize, hcap, hel⟩ := hr rfl
      subst hel
      rw [hbase] at hc hn ⊢
      have hdead : v.isDead = false := by cases v <;> first | rfl | simp [AV.cells, AV.one] at hone
      have hcells := hv.cells hdead
      have hl := hcells.1
      obtain ⟨hput, hsz'⟩ := hc.put hcells off (by omega) (by omega)
      have hrun := run_storeCells_at P pl.blk off el x.cells.toList 0 arr w (by simpa using ha) (by simp; omega) (hcells.oneCells hone)
      simp only [Nat.add_zero] at hrun
      refine ⟨_, ?_, h.write id c _ el born hid pl hp (putAll_len _ _ _) (setRow_only w pl.blk _) arr _ el ha (setRow_heap w _ arr _ el _ ha) hsz' hborn hput,
        Fr.only (setRow_only w pl.blk _) (by simp) hlt hp hold.2.1⟩
      have hne : ¬ (x.cells.size ≠ i.size) := by omega
      simp only [storeVar, Sem.run_bind, run_size hi, Result.andThen_ok]
      rw [if_neg hne]
      simp only [Sem.run_bind, Sem.run_pure, Result.andThen_ok, Nat.zero_add, hrun]
    · cases hs
  · cases hs

theorem vrs_cells {cs : List AV} {xs : Array Value} (h : VRs M cs xs) : CellsR M cs cs.length xs 0 := fun i x _ hx => by
  obtain ⟨y, hy, hv⟩ := h.2 i x hx
  exact ⟨y, by rw [Nat.zero_add]; exact hy, hv⟩

theorem upd_ver {id v : Nat} {pl : Pl} : upd M id v pl id v = some pl := upd_same M id v pl

/-- A new variable. -/
theorem newVar_sound (h : HR M H w) (hf : Free M H.length (H.length + 1)) {v : AV} {x : Value} (hv : VR M v x) (hd : v.isDead = false) (t : TypeId) :
    Post M H w (.ptr H.length 0 v.cells.length) (H ++ [.cells v.cells t 0 false]) (.pointer (some ⟨w.heap.size, 0, none⟩)) (w.alloc (.cells x.cells t)) := by
  have hc := hv.cells hd
  refine ⟨_, ?_, h.push hf v.cells x.cells t 1 x.cells.size (by rw [hc.1]; exact Nat.le_refl _) (by omega) (vrs_cells hc), Fr.push hf _ _ rfl _ _⟩
  exact .ptr _ 0 _ ⟨w.heap.size, 0, 1, x.cells.size, false⟩ upd_ver

theorem isDead_zero {z : AV} (h : 0 < z.cells.length) (h1 : z.cells.all AV.one = true) : z.isDead = false := by
  cases z <;> first | rfl | simp [AV.cells, AV.one] at h1

theorem newRow_sound (h : HR M H w) (hf : Free M H.length (H.length + 1)) {cs : List AV} {xs : Array Value} (hv : VRs M cs xs) (e : TypeId) (len cap sz : Nat) (hcap : xs.size = cap * sz) (hlen : len ≤ cap) :
    Post M H w (.sl H.length 0 len cs.length sz) (H ++ [.cells cs e 0 false]) (.slice (some ⟨w.heap.size, 0, none⟩) len cap) (w.alloc (.cells xs e)) := by
  refine ⟨_, ?_, h.push hf cs xs e cap sz (by rw [hv.1]; exact Nat.le_refl _) hcap (vrs_cells hv), Fr.push hf _ _ rfl _ _⟩
  refine .sl _ 0 len _ sz cap _ ⟨w.heap.size, 0, cap, sz, false⟩ upd_ver rfl (by simp) hlen ?_ (fun _ => by simp)
  rw [hv.1, hcap]
  simp only [Nat.zero_add]
  exact Nat.mul_le_mul_right _ hlen

end Go.Va
end

section
set_option linter.unusedSimpArgs false
set_option linter.unusedVariables false
set_option linter.unusedSectionVars false
namespace Go.Va

variable {P : Program} {M : Plc} {H : Heap} {w : World}

/-- What a slice shows, in the model. -/
theorem slCells_sound (h : HR M H w) {v : AV} {ys : List AV} (hs : slCells H v = some ys) {x : Value} (hv : VR M v x) {size : Nat} (hl : ys.length = slLen v * size) (hsz : 0 < size) :
    (v = .nilsl ∧ x = .slice none 0 0 ∧ ys = []) ∨ (∃ a cap xs, x = .slice (some a) (slLen v) cap ∧ VRs M ys xs ∧ ∀ (j : Nat) (u : Value), xs.toList[j]? = some u → w.cell? (a.add j) = some u) := by
  unfold slCells at hs
  split at hs
  · cases hs; cases hv; exact .inl ⟨rfl, rfl, rfl⟩
  · cases hs; cases hv; exact .inr ⟨_, 0, #[], rfl, ⟨rfl, fun i x hx => by simp at hx⟩, fun j u hu => by simp at hu⟩
  · rename_i id off len ver sz
    split at hs
    · rename_i c e born ro hid
      split at hs
      · rename_i hb
        obtain ⟨hb1, hb2, hb3⟩ := hb
        cases hs
        obtain ⟨a, cap, pl, rfl, hp, hsz', hcap, hlen, hee, ha⟩ := hv.sl_inv
        obtain ⟨arr, el, fz, harr, hn, hc, _⟩ := (h.cells id c e born ro hid ver pl hp).2.2 hb1
        have hmul : (off + len) * sz = off * sz + len * sz := Nat.add_mul _ _ _
        refine .inr ⟨a, cap, arr.extract (pl.base + off * sz) (pl.base + off * sz + len * sz), rfl, ⟨?_, ?_⟩, ?_⟩
        · simp only [List.length_take, List.length_drop, Array.size_extract]; omega
        · intro j x hx
          rw [List.getElem?_take] at hx
          split at hx
          · rename_i hj
            rw [List.getElem?_drop] at hx
            obtain ⟨y, hy, hvy⟩ := hc (off * sz + j) x (by omega) hx
            refine ⟨y, ?_, hvy⟩
            rw [Array.getElem?_extract, if_pos (by omega), ← hy, Nat.add_assoc]
          · cases hx
        · intro j u hu
          rw [Array.getElem?_toList, Array.getElem?_extract] at hu
          split at hu
          · rename_i hj
            have hpos : 0 < len * sz := by omega
            have hlen0 : len ≠ 0 := by intro h0; rw [h0] at hpos; simp at hpos
            rw [ha (by omega), Addr.add_lit]
            simp only [World.cell?, harr]
            simpa using hu
          · cases hu
      · cases hs
    · cases hs
  · cases hs

theorem CellsR.of_vrs {cs : List AV} {xs ys : Array Value} (h : VRs M cs xs) (rest : Array Value) (e : ys = xs ++ rest) : CellsR M cs cs.length ys 0 := by
  intro i x hi hx
  obtain ⟨y, hy, hv⟩ := h.2 i x hx
  refine ⟨y, ?_, hv⟩
  have := (Array.getElem?_eq_some_iff.1 hy).1
  rw [e, Nat.zero_add, Array.getElem?_append_left this]
  exact hy

theorem Fr.still {w' : World} (hh : w'.heap = w.heap) (h1 : w'.os = w.os) (h2 : w'.output = w.output) (h3 : w'.tape = w.tape) : Fr M H w M H w' :=
  ⟨.refl M, fun _ _ => rfl, Nat.le_refl _, h1, h2, h3, by rw [hh]; exact Nat.le_refl _, fun b _ _ => by rw [hh], fun id v pl hi h hr _ => ⟨v, pl, hi, h, hr, rfl⟩⟩

theorem append_sound (h : HR M H w) {t u : TypeId} {s y r : AV} {H' : Heap} (ha : appendA P t u s y H = some (r, H')) {sx yx : Value} (hs : VR M s sx) (hy : VR M y yx)
    (hf : Free M H.length H'.length) (htu : u = t) (ty : TypeId) :
    ∃ x w', (Builtin.append_ #[t, u] ty #[sx, yx]).run P w = .ok x w' ∧ Post M H w r H' x w' := by
  subst htu
  unfold appendA at ha
  split at ha
  · rename_i elem elem' ht ht'
    split at ha
    · rename_i i z ys hi hz hys
      split at ha
      · rename_i hb
        obtain ⟨hzl, hsz, hyl, hone, hby, hlen⟩ := hb
        obtain ⟨zx, i', hi', hzx, hzo, hzd, _⟩ := zeroA_inv hz
        rw [hi] at hi'; cases hi'
        have hzcs := zero_cells (M := M) hzo hzd
        have hzc : zx.cells.size = i.size := by rw [← hzcs.1]; exact hzl
        have hyc := slCells_sound h hys hy hyl hsz
        have growpush : ∀ (n cap : Nat) (cs : List AV) (xs : Array Value), VRs M cs xs → cs.length = n * i.size → n ≤ cap →
            ∃ arr : Array Value, arr = xs ++ Builtin.zeroCells zx.cells (cap - n) ∧ arr.size = cap * i.size ∧ CellsR M cs cs.length arr 0 ∧ cs.length ≤ arr.size := by
          intro n cap cs xs hv hn hc
          have hx := hv.1
          refine ⟨_, rfl, ?_, .of_vrs hv _ rfl, ?_⟩
          · rw [Array.size_append, size_zeroCells, hzc, ← hx, hn, ← Nat.add_mul]
            congr 1; omega
          · rw [Array.size_append]; omega
        split at ha
        · cases hs
          split at ha
          · rename_i h0
            cases ha
            refine ⟨.slice none 0 0, w, ?_, .same h .nilsl⟩
            rcases hyc with ⟨rfl, rfl, _⟩ | ⟨a, cap, xs, rfl, hxs, _⟩
            · simp [Builtin.append_, run_underlying ht, sizeOf, typeInfo, hi, Builtin.lenOf, Builtin.firstCells]
            · rw [h0]
              simp [Builtin.append_, run_underlying ht, sizeOf, typeInfo, hi, Builtin.lenOf, Builtin.firstCells, loadCells, loadCellsFrom]
          · rename_i h0
            cases ha
            rcases hyc with ⟨rfl, rfl, _⟩ | ⟨a, cap, xs, rfl, hxs, hcell⟩
            · exact absurd rfl h0
            · have hxl : xs.toList.length = slLen y * i.size := by rw [Array.length_toList, ← hxs.1, hyl]
              rw [show slLen AV.nilsl = 0 from rfl, Nat.zero_add] at hby hlen
              have hrun := run_append_nil (P := P) w u ty elem i zx ht hi hzx a (slLen y) cap xs.toList hxl hcell (by omega) (by omega) (by omega)
              obtain ⟨arr, harr, hsize, hcr, hle⟩ := growpush (slLen y) (grownCap w (slLen y) 0 elem) ys xs hxs hyl (grownCap_ge w _ _ _)
              have hd : HR M H w.drew := h.drew rfl
              rw [show xs.toList.toArray = xs from Array.toArray_toList, ← harr] at hrun
              have hnew := hd.push (by simpa using hf) ys arr elem _ i.size hle hsize hcr
              refine ⟨_, _, hrun, _, ?_, hnew, ?_⟩
              · refine .sl _ 0 _ _ _ (grownCap w (slLen y) 0 elem) _ _ upd_ver rfl (by simp) (grownCap_ge w _ _ _) ?_ (fun _ => by simp)
                rw [hyl, Nat.zero_add]; exact Nat.le_refl _
              · exact (Fr.still (w := w) (w' := w.drew) rfl rfl rfl rfl).trans (Fr.push (w := w.drew) (by simpa using hf) _ ⟨w.drew.heap.size, 0, _, i.size, false⟩ rfl _ _)
        · cases hs
          rename_i aa
          split at ha
          · rename_i h0
            cases ha
            refine ⟨.slice (some aa) 0 0, w, ?_, .same h (.esl aa)⟩
            rcases hyc with ⟨rfl, rfl, _⟩ | ⟨a, cap, xs, rfl, hxs, _⟩
            · simp [Builtin.append_, run_underlying ht, sizeOf, typeInfo, hi, Builtin.lenOf, Builtin.firstCells, storeCells]
            · rw [h0]
              simp [Builtin.append_, run_underlying ht, sizeOf, typeInfo, hi, Builtin.lenOf, Builtin.firstCells, loadCells, loadCellsFrom, storeCells]
          · rename_i h0
            cases ha
            rcases hyc with ⟨rfl, rfl, _⟩ | ⟨a, cap, xs, rfl, hxs, hcell⟩
            · exact absurd rfl h0
            · have hxl : xs.toList.length = slLen y * i.size := by rw [Array.length_toList, ← hxs.1, hyl]
              rw [show slLen AV.esl = 0 from rfl, Nat.zero_add] at hby hlen
              have hrun := run_append_grow (P := P) w u ty elem i zx ht hi hzx aa 0 0 [] (by simp) (fun j v hj => by simp at hj) a (slLen y) cap xs.toList hxl hcell (by omega) (by omega)
                (growslice_fits (by omega) (by simpa using hby))
              simp only [Nat.zero_add] at hrun
              obtain ⟨arr, harr, hsize, hcr, hle⟩ := growpush (slLen y) (grownCap w (slLen y) 0 elem) ys xs hxs hyl (grownCap_ge w _ _ _)
              have hd : HR M H w.drew := h.drew rfl
              rw [show xs.toList.toArray = xs from Array.toArray_toList, show ([] : List Value).toArray ++ xs ++ Builtin.zeroCells zx.cells (grownCap w (slLen y) 0 elem - slLen y) = arr from by rw [harr]; simp] at hrun
              have hnew := hd.push (by simpa using hf) ys arr elem _ i.size hle hsize hcr
              refine ⟨_, _, hrun, _, ?_, hnew, ?_⟩
              · refine .sl _ 0 _ _ _ (grownCap w (slLen y) 0 elem) _ _ upd_ver rfl (by simp) (grownCap_ge w _ _ _) ?_ (fun _ => by simp)
                rw [hyl, Nat.zero_add]; exact Nat.le_refl _
              · exact (Fr.still (w := w) (w' := w.drew) rfl rfl rfl rfl).trans (Fr.push (w := w.drew) (by simpa using hf) _ ⟨w.drew.heap.size, 0, _, i.size, false⟩ rfl _ _)
        · rename_i id off len ver sz
          rw [show slLen (AV.sl id off len ver sz) = len from rfl] at hby hlen
          split at ha
          · rename_i h0
            cases ha
            obtain ⟨a, cap, pl, rfl, hp, hsz', hcap, hlen', hee, haa⟩ := hs.sl_inv
            refine ⟨.slice (some a) len cap, w, ?_, .same h hs⟩
            rcases hyc with ⟨rfl, rfl, _⟩ | ⟨b, cap', xs, rfl, hxs, _⟩
            · simp [Builtin.append_, run_underlying ht, sizeOf, typeInfo, hi, Builtin.lenOf, Builtin.firstCells, hlen', storeCells]
            · rw [h0]
              simp [Builtin.append_, run_underlying ht, sizeOf, typeInfo, hi, Builtin.lenOf, Builtin.firstCells, loadCells, loadCellsFrom, hlen', storeCells]
          · rename_i h0
            split at ha
            · rename_i c e born ro hid
              simp only at ha
              split at ha
              · rename_i hc
                obtain ⟨rfl, rfl, rfl, hborn, rfl, rfl, hpv⟩ := hc
                obtain ⟨a, cap, pl, rfl, hp, hsz', hcap, hlen', hee, haa⟩ := hs.sl_inv
                have hold := h.cells id c e born false hid c.length pl hp
                obtain ⟨arr, el, fz, harr, hn, hcr, hr⟩ := hold.2.2 hborn
                obtain ⟨hbase, rfl, hsize, hvcap, rfl⟩ := hr rfl
                have hlt : id < H.length := (List.getElem?_eq_some_iff.1 hid).1
                rcases hyc with ⟨rfl, rfl, _⟩ | ⟨b, cap', xs, rfl, hxs, hcell⟩
                · exact absurd rfl h0
                have hxl : xs.toList.length = slLen y * i.size := by rw [Array.length_toList, ← hxs.1, hyl]
                have hpos : 0 < slLen y := by omega
                obtain rfl : pl.cap = cap := by omega
                rw [hbase] at haa hcr
                simp only [Nat.zero_mul, Nat.add_zero] at haa
                have hplen : len * i.size + ys.length = (len + slLen y) * i.size := by rw [hyl, Nat.add_mul]
                have inplace : len + slLen y ≤ pl.cap → (Builtin.append_ #[u, u] ty #[.slice (some a) len pl.cap, .slice (some b) (slLen y) cap']).run P w =
                    .ok (.slice (some ⟨pl.blk, 0, none⟩) (len + slLen y) pl.cap) (w.setRow pl.blk (arr.toList.take (len * i.size) ++ xs.toList ++ arr.toList.drop (len * i.size + xs.toList.length)).toArray) := by
                  intro hroom
                  rw [haa (by omega)]
                  refine run_append_room w u ty el i ht hi pl.blk len pl.cap arr harr b (slLen y) cap' xs.toList hxl hcell (hxs.oneCells hone) hroom ?_
                  rw [hsize, hsz', hxl, ← Nat.add_mul]
                  exact Nat.mul_le_mul_right _ hroom
                have hwr := setRow_only w pl.blk (arr.toList.take (len * i.size) ++ xs.toList ++ arr.toList.drop (len * i.size + xs.toList.length)).toArray
                have hrow := setRow_heap w pl.blk arr (arr.toList.take (len * i.size) ++ xs.toList ++ arr.toList.drop (len * i.size + xs.toList.length)).toArray el (0, 0) harr
                split at ha
                · rename_i hfit
                  cases ha
                  have hroom : len + slLen y ≤ pl.cap := by
                    rw [hplen] at hfit
                    rw [hsz'] at hvcap
                    exact Nat.le_of_mul_le_mul_right (Nat.le_trans hfit hvcap) hsz
                  obtain ⟨hput, hput'⟩ := hcr.put hxs (len * i.size) hfit (by omega)
                  refine ⟨_, _, inplace hroom, M, ?_, ?_, ?_⟩
                  · refine .sl id 0 _ _ _ pl.cap _ pl hp hsz' (by omega) hroom ?_ (fun _ => by rw [hbase]; simp)
                    rw [Nat.zero_add, ← hplen]; exact hfit
                  · exact h.write id c _ el born hid pl hp (putAll_len _ _ _) hwr arr _ el harr hrow hput' hborn hput
                  · exact Fr.only hwr (by simp) hlt hp hold.2.1
                · rename_i hfit
                  cases ha
                  have hver : ∀ v p, M id v = some p → v ≤ c.length := fun v p hv => (h.cells id c el born false hid v p hv).1
                  have hnone : M id (len * i.size + ys.length) = none := by
                    cases hm : M id (len * i.size + ys.length) with
                    | none => rfl
                    | some p => have := hver _ _ hm; omega
                  have hnl : (c.take (len * i.size) ++ ys).length = len * i.size + ys.length := by simp; omega
                  -- the new version: where it lies, and the world behind
                  have fin : ∀ (pl' : Pl) (w' : World) (arr' : Array Value), pl'.base = 0 → pl'.sz = i.size → pl'.ro = false → len + slLen y ≤ pl'.cap →
                      w'.heap[pl'.blk]? = some (.cells arr' el (0, 0)) → arr'.size = pl'.cap * i.size → CellsR M (c.take (len * i.size) ++ ys) (len * i.size + ys.length) arr' 0 →
                      (∀ k, k < w.heap.size → k ≠ pl.blk → w'.heap[k]? = w.heap[k]?) → w.heap.size ≤ w'.heap.size → pl'.blk < w'.heap.size → (pl'.blk = pl.blk ∨ w.heap.size ≤ pl'.blk) →
                      (∀ v p, M id v = some p → len * i.size = c.length → born ≤ v → ∃ arr₂ fz, w'.heap[p.blk]? = some (.cells arr₂ el fz) ∧ p.base + v ≤ arr₂.size ∧ CellsR M c v arr₂ p.base ∧
                        p.base = 0 ∧ fz = (0, 0) ∧ arr₂.size = p.cap * p.sz) →
                      w'.os = w.os → w'.output = w.output → w'.tape = w.tape →
                      Post M H w (.sl id 0 (len + slLen y) (len * i.size + ys.length) i.size) (H.set id (.cells (c.take (len * i.size) ++ ys) el (if len * i.size = c.length then born else len * i.size + ys.length) false))
                        (.slice (some ⟨pl'.blk, 0, none⟩) (len + slLen y) pl'.cap) w' := by
                    intro pl' w' arr' hb0 hsz0 hro hcapl hrow' hsize' hcells' hothers hgrow hlt' hwhere hold' hos hout htape
                    have hle := Le.upd (M := M) (pl := pl') hnone
                    refine ⟨upd M id (len * i.size + ys.length) pl', ?_, ?_, ?_⟩
                    · refine .sl id 0 _ _ _ pl'.cap _ pl' upd_ver hsz0 (by omega) hcapl ?_ (fun _ => by rw [hb0]; simp)
                      rw [Nat.zero_add, hplen]; exact Nat.le_refl _
                    · refine h.turn id ?_ (fun i' v hne => upd_other (.inl hne)) hle ?_ hgrow ?_ ?_ ?_
                      · intro i' hne; rw [List.getElem?_set_ne (Ne.symm hne)]
                      · intro i' v p hne hp'
                        refine hothers _ (h.inb i' v p hp') fun e' => ?_
                        have := (h.excl i' v p id c.length pl hp' hp hne e').2
                        rw [hold.2.1] at this; cases this
                      · intro c₂ e₂ b₂ ro₂ hi₂ v p hp'
                        rw [List.getElem?_set_self hlt] at hi₂
                        cases hi₂
                        rw [hnl]
                        by_cases hv : v = len * i.size + ys.length
                        · subst hv
                          rw [upd_same] at hp'; cases hp'
                          refine ⟨Nat.le_refl _, hro, fun _ => ⟨arr', el, (0, 0), hrow', ?_, ?_, fun _ => ⟨hb0, rfl, by rw [hsz0]; exact hsize', ?_, rfl⟩⟩⟩
                          · rw [hb0, hsize', hplen, Nat.zero_add]; exact Nat.mul_le_mul_right _ hcapl
                          · rw [hb0]
                            intro k x hk hx
                            obtain ⟨y', hy', hv'⟩ := hcells' k x hk hx
                            exact ⟨y', hy', hv'.mono hle⟩
                          · rw [hplen, hsz0]; exact Nat.mul_le_mul_right _ hcapl
                        · rw [upd_other (.inr hv)] at hp'
                          have hol := h.cells id c el born false hid v p hp'
                          refine ⟨by omega, hol.2.1, fun hbv => ?_⟩
                          by_cases hfull : len * i.size = c.length
                          · rw [if_pos hfull] at hbv
                            obtain ⟨arr₂, fz, h1, h2, h3, h4, h5, h6⟩ := hold' v p hp' hfull hbv
                            obtain ⟨_, _, _, _, _, _, hr₂⟩ := hol.2.2 hbv
                            refine ⟨arr₂, el, fz, h1, h2, ?_, fun _ => ⟨h4, h5, h6, (hr₂ rfl).2.2.2.1, rfl⟩⟩
                            intro k x hk hx
                            rw [List.getElem?_append_left (by simp; omega), List.getElem?_take, if_pos (by omega)] at hx
                            obtain ⟨y', hy', hv'⟩ := h3 k x hk hx
                            exact ⟨y', hy', hv'.mono hle⟩
                          · rw [if_neg hfull] at hbv
                            omega
                      · intro es hes
                        rw [List.getElem?_set_self hlt] at hes
                        cases hes
                      · intro v p hp'
                        by_cases hv : v = len * i.size + ys.length
                        · subst hv
                          rw [upd_same] at hp'; cases hp'
                          refine ⟨hro, hlt', fun i' u p₂ hne h₂ he => ?_⟩
                          rcases hwhere with hw | hw
                          · have := (h.excl i' u p₂ id c.length pl h₂ hp hne (he.trans hw)).2
                            rw [hold.2.1] at this; cases this
                          · have := h.inb i' u p₂ h₂; omega
                        · rw [upd_other (.inr hv)] at hp'
                          have hol := h.cells id c el born false hid v p hp'
                          refine ⟨hol.2.1, by have := h.inb id v p hp'; omega, fun i' u p₂ hne h₂ he => ?_⟩
                          have := (h.excl i' u p₂ id v p h₂ hp' hne he).2
                          rw [hol.2.1] at this; cases this
                    · refine ⟨hle, ?_, by simp, hos, hout, htape, hgrow, ?_, ?_⟩
                      · intro i' hi'
                        simp only [List.length_set] at hi'
                        funext v
                        exact upd_other (.inl (by omega))
                      · intro k hk hn'
                        exact hothers k hk (fun e' => hn' id c.length pl hlt hp hold.2.1 e'.symm)
                      · intro i' v p hi' hp' hr' hk
                        simp only [List.length_set] at hi'
                        by_cases hv : i' = id ∧ v = len * i.size + ys.length
                        · obtain ⟨rfl, rfl⟩ := hv
                          rw [upd_same] at hp'; cases hp'
                          rcases hwhere with hw | hw
                          · exact ⟨c.length, pl, hlt, hp, hold.2.1, hw.symm⟩
                          · omega
                        · have hp'' : M i' v = some p := by
                            by_cases h1 : i' = id
                            · subst h1; rw [upd_other (.inr (by simpa using hv))] at hp'; exact hp'
                            · rw [upd_other (.inl h1)] at hp'; exact hp'
                          exact ⟨v, p, hi', hp'', hr', rfl⟩
                  have htk : CellsR M (c.take (len * i.size)) (len * i.size) (arr.toList.take (len * i.size)).toArray 0 := by
                    intro k x hk hx
                    rw [List.getElem?_take, if_pos hk] at hx
                    obtain ⟨y', hy', hv'⟩ := hcr k x (by omega) hx
                    exact ⟨y', by simp only [List.getElem?_toArray, Nat.zero_add]; rw [List.getElem?_take, if_pos hk]; simpa using hy', hv'⟩
                  have hcl : c.length ≤ arr.size := by rw [hsize]; exact hvcap
                  have hcat : ∀ (rest : List Value), CellsR M (c.take (len * i.size) ++ ys) (len * i.size + ys.length) (arr.toList.take (len * i.size) ++ xs.toList ++ rest).toArray 0 := by
                    intro rest k x hk hx
                    simp only [Nat.zero_add, List.getElem?_toArray]
                    have hxl' := hxs.1
                    by_cases hk1 : k < len * i.size
                    · rw [List.getElem?_append_left (by simp; omega)] at hx
                      obtain ⟨y', hy', hv'⟩ := htk k x hk1 hx
                      refine ⟨y', ?_, hv'⟩
                      simp only [Nat.zero_add, List.getElem?_toArray] at hy'
                      rw [List.getElem?_append_left (by simp; omega), List.getElem?_append_left (by simp; omega)]
                      exact hy'
                    · rw [List.getElem?_append_right (by simp; omega)] at hx
                      have e1 : (c.take (len * i.size)).length = len * i.size := by simp; omega
                      rw [e1] at hx
                      obtain ⟨y', hy', hv'⟩ := hxs.2 _ _ hx
                      refine ⟨y', ?_, hv'⟩
                      have e2 : (arr.toList.take (len * i.size)).length = len * i.size := by simp; omega
                      rw [List.getElem?_append_left (by simp; omega), List.getElem?_append_right (by omega), e2]
                      simpa using hy'
                  by_cases hroom : len + slLen y ≤ pl.cap
                  · refine ⟨_, _, inplace hroom, ?_⟩
                    have hsz2 : (arr.toList.take (len * i.size) ++ xs.toList ++ arr.toList.drop (len * i.size + xs.toList.length)).toArray.size = arr.size := by
                      have h1 : (len + slLen y) * i.size ≤ pl.cap * i.size := Nat.mul_le_mul_right _ hroom
                      rw [hsz'] at hsize
                      have hxl' := hxs.1
                      simp; omega
                    refine fin pl _ _ hbase hsz' hold.2.1 hroom hrow (by rw [hsz2, hsize, hsz']) (hcat _) (fun k _ hk => hwr.block k hk) (by rw [hwr.size]; exact Nat.le_refl _)
                      (by rw [hwr.size]; exact h.inb id _ pl hp) (.inl rfl) ?_ rfl rfl rfl
                    intro v p hp' hfull hbv
                    obtain ⟨hv1, hpro, hv3⟩ := h.cells id c el born false hid v p hp'
                    obtain ⟨arr₂, el₂, fz₂, g1, g2, g3, g4⟩ := hv3 hbv
                    obtain ⟨g5, g6, g7, g8, g9⟩ := g4 rfl
                    by_cases hpb : p.blk = pl.blk
                    · rw [hpb, harr] at g1
                      cases g1
                      refine ⟨_, (0, 0), by rw [hpb]; exact hrow, by rw [hsz2]; exact g2, ?_, g5, rfl, by rw [hsz2]; exact g7⟩
                      intro k x hk hx
                      obtain ⟨y', hy', hv'⟩ := g3 k x hk hx
                      refine ⟨y', ?_, hv'⟩
                      rw [g5, Nat.zero_add] at hy' ⊢
                      simp only [List.getElem?_toArray]
                      rw [List.getElem?_append_left (by simp; omega), List.getElem?_append_left (by simp; omega), List.getElem?_take, if_pos (by omega)]
                      simpa using hy'
                    · exact ⟨arr₂, fz₂, by rw [hwr.block _ hpb, g1, g9], g2, g3, g5, g6, g7⟩
                  · have holds : ∀ (j : Nat) (v : Value), (arr.toList.take (len * i.size))[j]? = some v → w.cell? (a.add j) = some v := by
                      intro j v hj
                      rw [List.getElem?_take] at hj
                      split at hj
                      · rename_i hjl
                        have hl0 : len ≠ 0 := by intro h00; rw [h00] at hjl; simp at hjl
                        rw [haa (by omega), Addr.add_lit]
                        simp only [World.cell?, harr, Nat.zero_add]
                        simpa using hj
                      · cases hj
                    have hrun := run_append_grow (P := P) w u ty el i zx ht hi hzx a len pl.cap (arr.toList.take (len * i.size)) (by simp; omega) holds b (slLen y) cap' xs.toList hxl hcell (by omega) (by omega)
                      (growslice_fits (by omega) hby)
                    refine ⟨_, _, hrun, ?_⟩
                    have hge := grownCap_ge w (len + slLen y) pl.cap el
                    have e3 : (arr.toList.take (len * i.size)).toArray ++ xs.toList.toArray ++ Builtin.zeroCells zx.cells (grownCap w (len + slLen y) pl.cap el - (len + slLen y)) =
                        (arr.toList.take (len * i.size) ++ xs.toList ++ (Builtin.zeroCells zx.cells (grownCap w (len + slLen y) pl.cap el - (len + slLen y))).toList).toArray := by simp
                    have hsz3 : ((arr.toList.take (len * i.size)).toArray ++ xs.toList.toArray ++ Builtin.zeroCells zx.cells (grownCap w (len + slLen y) pl.cap el - (len + slLen y))).size = grownCap w (len + slLen y) pl.cap el * i.size := by
                      have h1 : (arr.toList.take (len * i.size)).length = len * i.size := by simp; omega
                      rw [Array.size_append, Array.size_append, size_zeroCells, hzc, List.size_toArray, List.size_toArray, h1, hxl, ← Nat.add_mul, ← Nat.add_mul]
                      congr 1; omega
                    refine fin ⟨w.heap.size, 0, grownCap w (len + slLen y) pl.cap el, i.size, false⟩ _ _ rfl rfl rfl hge (heap_top w.drew _) hsz3 (by rw [e3]; exact hcat _) (fun k hk _ => heap_push w.drew _ k hk)
                      (by rw [size_push]; exact Nat.le_succ _) (by rw [size_push]; exact Nat.lt_succ_self _) (.inr (Nat.le_refl _)) ?_ rfl rfl rfl
                    intro v p hp' hfull hbv
                    obtain ⟨hv1, hpro, hv3⟩ := h.cells id c el born false hid v p hp'
                    obtain ⟨arr₂, el₂, fz₂, g1, g2, g3, g4⟩ := hv3 hbv
                    obtain ⟨g5, g6, g7, g8, g9⟩ := g4 rfl
                    exact ⟨arr₂, fz₂, by rw [heap_push w.drew _ _ (h.inb id v p hp')]; rw [← g9]; exact g1, g2, g3, g5, g6, g7⟩
              · cases ha
            · cases ha
        · cases ha
      · cases ha
    · cases ha
  · cases ha

end Go.Va
end

section
set_option linter.unusedSimpArgs false
set_option linter.unusedVariables false
set_option linter.unusedSectionVars false
namespace Go.Va

variable {P : Program} {M : Plc} {H : Heap} {w : World}

/-- Entries, one by one. -/
def EntR (M : Plc) (es : List (AV × AV)) (xs : List MapEntry) : Prop := es.length = xs.length ∧ ∀ (i : Nat) (k x : AV), es[i]? = some (k, x) → ∃ m : MapEntry, xs[i]? = some m ∧ VR M k m.key ∧ VR M x m.val

theorem EntR.tail {e : AV × AV} {es : List (AV × AV)} {x : MapEntry} {xs : List MapEntry} (h : EntR M (e :: es) (x :: xs)) : (VR M e.1 x.key ∧ VR M e.2 x.val) ∧ EntR M es xs := by
  refine ⟨?_, by simpa using h.1, fun i k y hi => by have := h.2 (i + 1) k y (by simpa using hi); simpa using this⟩
  obtain ⟨m, hm, h1, h2⟩ := h.2 0 e.1 e.2 rfl
  simp only [List.getElem?_cons_zero, Option.some.injEq] at hm
  subst hm
  exact ⟨h1, h2⟩

theorem EntR.nil {xs : List MapEntry} (h : EntR M [] xs) : xs = [] := List.eq_nil_of_length_eq_zero (by simpa using h.1.symm)

/-- Two keys are held against each other. -/
theorem keyEq_sound {C : Ctx} (hC : C.ok) {t : TypeId} {a b : AV} {r : Bool} (h : keyEqA C t a b = some r) {x y : Value} (hx : VR M a x) (hy : VR M b y) :
    (∃ kd, C.P.underlying t = some (.int kd) ∧ Instr.sameNow (.int kd) x y = some r) ∨
    (∃ fs, C.P.underlying t = some (.struct fs) ∧ Instr.sameNow (.struct fs) x y = none ∧ (Op.equal t x y).run C.P w = .ok r w) := by
  unfold keyEqA at h
  split at h
  · rename_i kd j p k q ht
    split at h
    · rename_i hjk
      subst hjk
      cases h; cases hx; cases hy
      exact .inl ⟨kd, ht, by simp [Instr.sameNow]⟩
    · cases h
  · rename_i fs xs ys ht
    simp only [Option.bind_eq_some_iff] at h
    obtain ⟨ks, hk, he⟩ := h
    obtain ⟨xs', rfl, hxs⟩ := hx.agg_inv
    obtain ⟨ys', rfl, hys⟩ := hy.agg_inv
    exact .inr ⟨fs, ht, rfl, eqAgg_sound (hC.eq t ks hk) he hxs hys 9998⟩
  · cases h

/-- What was found, on both sides. -/
def FindR (M : Plc) (r : Option (Nat × AV)) (r' : Option (Nat × Value)) : Prop :=
  (r = none ∧ r' = none) ∨ ∃ j v y, r = some (j, v) ∧ r' = some (j, y) ∧ VR M v y

theorem find_sound {C : Ctx} (hC : C.ok) {t : TypeId} {k : AV} {x : Value} (hk : VR M k x) : ∀ (es : List (AV × AV)) (xs : List MapEntry) (i : Nat) (r : Option (Nat × AV)), EntR M es xs → findA C t k es i = some r →
    (∃ kd, C.P.underlying t = some (.int kd) ∧ ∃ r', Instr.findNow (.int kd) x xs i = some r' ∧ FindR M r r') ∨
    (es = [] ∧ xs = [] ∧ r = none) ∨
    (∃ fs, C.P.underlying t = some (.struct fs) ∧ (es ≠ [] → Instr.findNow (.struct fs) x xs i = none) ∧ ∃ r', (Instr.findAsking t x xs i).run C.P w = .ok r' w ∧ FindR M r r')
  | [], xs, i, r, he, h => by
    have := he.nil
    subst this
    simp only [findA, Option.some.injEq] at h
    subst h
    exact .inr (.inl ⟨rfl, rfl, rfl⟩)
  | e :: es, [], i, r, he, h => by have := he.1; simp at this
  | e :: es, m :: xs, i, r, he, h => by
    obtain ⟨⟨hke, hve⟩, ht⟩ := he.tail
    simp only [findA] at h
    split at h
    · rename_i hq
      cases h
      rcases keyEq_sound (w := w) hC hq hk hke with ⟨kd, hu, hs⟩ | ⟨fs, hu, hs, hr⟩
      · exact .inl ⟨kd, hu, some (i, m.val), by simp [Instr.findNow, hs], .inr ⟨_, _, _, rfl, rfl, hve⟩⟩
      · exact .inr (.inr ⟨fs, hu, fun _ => by simp [Instr.findNow, hs], some (i, m.val), by simp [Instr.findAsking, hr], .inr ⟨_, _, _, rfl, rfl, hve⟩⟩)
    · rename_i hq
      have ih := find_sound hC hk es xs (i + 1) r ht h
      rcases keyEq_sound (w := w) hC hq hk hke with ⟨kd, hu, hs⟩ | ⟨fs, hu, hs, hr⟩
      · rcases ih with ⟨kd', hu', r', h1, h2⟩ | ⟨rfl, rfl, rfl⟩ | ⟨fs', hu', _⟩
        · rw [hu] at hu'; cases hu'
          exact .inl ⟨kd, hu, r', by simp [Instr.findNow, hs, h1], h2⟩
        · exact .inl ⟨kd, hu, none, by simp [Instr.findNow, hs], .inl ⟨rfl, rfl⟩⟩
        · rw [hu] at hu'; cases hu'
      · rcases ih with ⟨kd', hu', _⟩ | ⟨rfl, rfl, rfl⟩ | ⟨fs', hu', h0, r', h1, h2⟩
        · rw [hu] at hu'; cases hu'
        · exact .inr (.inr ⟨fs, hu, fun _ => by simp [Instr.findNow, hs], none, by simp [Instr.findAsking, hr], .inl ⟨rfl, rfl⟩⟩)
        · rw [hu] at hu'; cases hu'
          exact .inr (.inr ⟨fs, hu, fun _ => by simp [Instr.findNow, hs], r', by simp [Instr.findAsking, hr, h1], h2⟩)
    · cases h

theorem findKey_sound {C : Ctx} (hC : C.ok) {t : TypeId} {k : AV} {x : Value} (hk : VR M k x) (hok : keyOkA C t k = true) {es : List (AV × AV)} {xs : List MapEntry} {r : Option (Nat × AV)} (he : EntR M es xs) (h : findA C t k es 0 = some r) :
    ∃ r', (Instr.findKey t x xs).run C.P w = .ok r' w ∧ FindR M r r' := by
  rcases find_sound (w := w) hC hk es xs 0 r he h with ⟨kd, hu, r', h1, h2⟩ | ⟨rfl, rfl, rfl⟩ | ⟨fs, hu, h0, r', h1, h2⟩
  · exact ⟨r', by simp [Instr.findKey, run_underlying hu, h1], h2⟩
  · have hu : ∃ d, C.P.underlying t = some d := by
      unfold keyOkA keyEqA at hok
      split at hok
      · exact ⟨_, ‹_›⟩
      · exact ⟨_, ‹_›⟩
      · simp at hok
    obtain ⟨d, hu⟩ := hu
    exact ⟨none, by simp [Instr.findKey, run_underlying hu, Instr.findNow], .inl ⟨rfl, rfl⟩⟩
  · by_cases hn : es = []
    · subst hn
      have := he.nil
      subst this
      simp only [findA, Option.some.injEq] at h
      subst h
      exact ⟨none, by simp [Instr.findKey, run_underlying hu, Instr.findNow], .inl ⟨rfl, rfl⟩⟩
    · exact ⟨r', by simp [Instr.findKey, run_underlying hu, h0 hn, h1], h2⟩

theorem forIn_ok {α : Type} (l : List α) (B : α → PUnit → Sem (ForInStep PUnit)) (h : ∀ f ∈ l, (B f PUnit.unit).run P w = .ok (.yield PUnit.unit) w) : (forIn l PUnit.unit B).run P w = .ok PUnit.unit w := by
  induction l with
  | nil => rfl
  | cons f l ih =>
    simp only [List.forIn_cons, Sem.run_bind, h f (by simp), Result.andThen_ok]
    exact ih (fun f' hf' => h f' (by simp [hf']))

/-- A key of such a kind can be hashed. -/
theorem checkKey_sound {C : Ctx} (hC : C.ok) {t : TypeId} {k : AV} (hok : keyOkA C t k = true) {x : Value} (hk : VR M k x) (empty : Bool) (n : Nat) : (Instr.checkKey empty (n + 2) t x).run C.P w = .ok () w := by
  unfold keyOkA keyEqA at hok
  split at hok
  · rename_i ht _
    cases hk
    simp only [Instr.checkKey, Sem.run_bind, run_underlying ht, Result.andThen_ok]
    rfl
  · rename_i fs xs ys ht h2
    cases h2
    simp only [Option.isSome_bind] at hok
    obtain ⟨xs', rfl, hxs⟩ := hk.agg_inv
    cases hks : C.kinds t with
    | none => simp [hks] at hok
    | some ks =>
      obtain ⟨fs', hfs', hkl, hf⟩ := (hC.eq t ks hks).fields
      rw [ht] at hfs'; cases hfs'
      simp only [hks, Option.any_some] at hok
      obtain ⟨b, hb⟩ := Option.isSome_iff_exists.1 hok
      have hlen := (eqCells_len hb).1
      rw [Instr.checkKey]
      simp only [Sem.run_bind, run_underlying ht, Result.andThen_ok]
      rw [← Array.forIn_toList, forIn_ok (P := C.P) fs.toList _ ?_]
      · rfl
      intro f hfm
      obtain ⟨i, hi, rfl⟩ := List.getElem_of_mem hfm
      simp only [Array.length_toList] at hi
      simp only [Array.getElem_toList]
      obtain ⟨hnm, ho, hty⟩ := hf i fs[i] (Array.getElem?_eq_getElem hi)
      have hix : i < xs'.size := by rw [← hxs.1]; omega
      have : ∃ d, C.P.underlying fs[i].type = some d ∧ (d = .bool ∨ ∃ k, d = .int k) := by
        rcases hty with ⟨_, k, hk⟩ | ⟨_, hk⟩
        · exact ⟨_, hk, .inr ⟨k, rfl⟩⟩
        · exact ⟨_, hk, .inl rfl⟩
      obtain ⟨d, hd, hdk⟩ := this
      have hagg := run_isAgg hd w
      have hfalse : aggD d = false := by rcases hdk with rfl | ⟨k, rfl⟩ <;> rfl
      rw [hfalse] at hagg
      have hp : (part fs[i].type xs' fs[i].offset).run C.P w = .ok xs'[i] w := by simp [part, hagg, ho, hix]
      have hck : (Instr.checkKey empty (n + 1) fs[i].type xs'[i]).run C.P w = .ok () w := by
        simp only [Instr.checkKey, Sem.run_bind, run_underlying hd, Result.andThen_ok]
        rcases hdk with rfl | ⟨k, rfl⟩ <;> rfl
      rw [if_pos hnm]
      simp only [Sem.run_bind, hp, Result.andThen_ok, hck, Sem.run_pure]
  · simp at hok

theorem HR.ent (h : HR M H w) {id : Nat} {es : List (AV × AV)} (hid : H[id]? = some (.map es)) {pl : Pl} (hp : M id 0 = some pl) :
    pl.ro = false ∧ ∃ (es' : Array MapEntry) (clock : Nat), w.heap[pl.blk]? = some (.map es' clock) ∧ EntR M es es'.toList := by
  obtain ⟨h1, es', clock, h2, h3, h4⟩ := h.maps id es hid 0 pl hp
  exact ⟨h1.2, es', clock, h2, by simpa using h3, fun i k x hi => by
    obtain ⟨m, hm, hv⟩ := h4 i k x hi
    exact ⟨m, by simpa using hm, hv⟩⟩

theorem VR.map_inv {id : Nat} {x : Value} (h : VR M (.map id) x) : ∃ pl, M id 0 = some pl ∧ x = .map (some pl.blk) := by
  cases h with | map _ pl h => exact ⟨pl, h, rfl⟩

theorem run_getMap {b : Nat} {es : Array MapEntry} {clock : Nat} (hb : w.heap[b]? = some (.map es clock)) : (getObj b).run P w = .ok (.map es clock) w := by
  simp [getObj, Sem.run, hb]

theorem lookup_sound {C : Ctx} (hC : C.ok) (h : HR M H w) {t : TypeId} {m k r : AV} {ok : Bool} (hl : lookupA C t m k ok H = some r) {x y : Value} (hm : VR M m x) (hk : VR M k y) :
    ∃ z, (Instr.lookup t x y ok).run C.P w = .ok z w ∧ VR M r z := by
  unfold lookupA at hl
  split at hl
  · rename_i kt et ht
    simp only at hl
    split at hl
    · rename_i es z hes hz
      obtain ⟨zx, i, hi, hzi, rfl, hzd, hzb⟩ := zeroA_inv hz
      split at hl
      · rename_i hok
        -- the entries, on both sides
        have hent : ∃ es' : Array MapEntry, ((x = .map none ∧ es' = #[]) ∨ ∃ b clock, x = .map (some b) ∧ w.heap[b]? = some (.map es' clock)) ∧ EntR M es es'.toList := by
          split at hes
          · cases hes; cases hm; exact ⟨#[], .inl ⟨rfl, rfl⟩, rfl, fun i k x hi => by simp at hi⟩
          · rename_i id
            split at hes
            · rename_i es₂ hid
              cases hes
              obtain ⟨pl, hp, rfl⟩ := hm.map_inv
              obtain ⟨_, es', clock, hb, he⟩ := h.ent hid hp
              exact ⟨es', .inr ⟨_, clock, rfl, hb⟩, he⟩
            · cases hes
          · cases hes
        obtain ⟨es', hrun, he⟩ := hent
        have hck := checkKey_sound (w := w) hC hok hk es'.isEmpty 9998
        split at hl
        · rename_i j v hf
          cases hl
          obtain ⟨r', hfk, hr⟩ := findKey_sound (w := w) hC hk hok he hf
          rcases hr with ⟨h0, _⟩ | ⟨j', v', y', h1, rfl, hv⟩
          · cases h0
          · cases h1
            cases ok
            · exact ⟨y', by
                rcases hrun with ⟨rfl, rfl⟩ | ⟨b, clock, rfl, hb⟩
                · simp only [Instr.lookup, Sem.run_bind, run_underlying ht, Result.andThen_ok, Sem.run_pure, hck, hfk]; rfl
                · simp only [Instr.lookup, Sem.run_bind, run_underlying ht, Result.andThen_ok, Sem.run_pure, run_getMap (P := C.P) hb, hck, hfk]; rfl, hv⟩
            · refine ⟨.tuple #[y', .bool true], by
                rcases hrun with ⟨rfl, rfl⟩ | ⟨b, clock, rfl, hb⟩
                · simp only [Instr.lookup, Sem.run_bind, run_underlying ht, Result.andThen_ok, Sem.run_pure, hck, hfk]; rfl
                · simp only [Instr.lookup, Sem.run_bind, run_underlying ht, Result.andThen_ok, Sem.run_pure, run_getMap (P := C.P) hb, hck, hfk]; rfl, .tup' ⟨rfl, ?_⟩⟩
              intro i x hx
              match i, hx with
              | 0, hx => simp at hx; subst hx; exact ⟨_, rfl, hv⟩
              | 1, hx => simp at hx; subst hx; exact ⟨_, rfl, .bool _⟩
              | i + 2, hx => simp at hx
        · rename_i hf
          cases hl
          obtain ⟨r', hfk, hr⟩ := findKey_sound (w := w) hC hk hok he hf
          rcases hr with ⟨_, rfl⟩ | ⟨j', v', y', h1, _⟩
          · have hzr := run_zero hzb w
            cases ok
            · exact ⟨zx, by
                rcases hrun with ⟨rfl, rfl⟩ | ⟨b, clock, rfl, hb⟩
                · simp only [Instr.lookup, Sem.run_bind, run_underlying ht, Result.andThen_ok, Sem.run_pure, hck, hfk, hzr]; rfl
                · simp only [Instr.lookup, Sem.run_bind, run_underlying ht, Result.andThen_ok, Sem.run_pure, run_getMap (P := C.P) hb, hck, hfk, hzr]; rfl, .ofV zx⟩
            · refine ⟨.tuple #[zx, .bool false], by
                rcases hrun with ⟨rfl, rfl⟩ | ⟨b, clock, rfl, hb⟩
                · simp only [Instr.lookup, Sem.run_bind, run_underlying ht, Result.andThen_ok, Sem.run_pure, hck, hfk, hzr]; rfl
                · simp only [Instr.lookup, Sem.run_bind, run_underlying ht, Result.andThen_ok, Sem.run_pure, run_getMap (P := C.P) hb, hck, hfk, hzr]; rfl, .tup' ⟨rfl, ?_⟩⟩
              intro i x hx
              match i, hx with
              | 0, hx => simp at hx; subst hx; exact ⟨_, rfl, .ofV zx⟩
              | 1, hx => simp at hx; subst hx; exact ⟨_, rfl, .bool _⟩
              | i + 2, hx => simp at hx
          · cases h1
        · cases hl
      · cases hl
    · cases hl
  · cases hl

theorem sameBits_refl_int (n : Nat) (k : IntKind) (a : Int) : Instr.sameBits n (.int k a) (.int k a) = true := by
  cases n <;> simp [Instr.sameBits]

/-- Keys that are equal are the same to the bit. -/
theorem keyEq_bits {C : Ctx} {t : TypeId} {a b : AV} (h : keyEqA C t a b = some true) {x y : Value} (hx : VR M a x) (hy : VR M b y) : Instr.sameBits 10000 y x = true := by
  unfold keyEqA at h
  split at h
  · rename_i kd j p k q ht
    split at h
    · rename_i hjk
      subst hjk
      cases hx; cases hy
      simp only [Option.some.injEq, beq_iff_eq] at h
      subst h
      exact sameBits_refl_int _ _ _
    · cases h
  · rename_i fs xs ys ht
    simp only [Option.bind_eq_some_iff] at h
    obtain ⟨ks, hk, he⟩ := h
    obtain ⟨xs', rfl, hxs⟩ := hx.agg_inv
    obtain ⟨ys', rfl, hys⟩ := hy.agg_inv
    have key : ∀ (ks : List Bool) (xs ys : List AV) (xs' ys' : List Value), eqCells ks xs ys = some true → xs.length = xs'.length → ys.length = ys'.length →
        (∀ (i : Nat) (x : AV), xs[i]? = some x → ∃ y, xs'[i]? = some y ∧ VR M x y) → (∀ (i : Nat) (x : AV), ys[i]? = some x → ∃ y, ys'[i]? = some y ∧ VR M x y) →
        (ys'.zip xs').all (fun p => Instr.sameBits 9999 p.1 p.2) = true := by
      intro ks
      induction ks with
      | nil =>
        intro xs ys xs' ys' he hl hl' _ _
        have hc := (eqCells_len he).1
        have : xs' = [] := List.eq_nil_of_length_eq_zero (by rw [← hl, hc]; rfl)
        subst this
        simp
      | cons kb ks ih =>
        intro xs ys xs' ys' he hl hl' hx hy
        have hc := eqCells_len he
        cases xs with
        | nil => simp at hc
        | cons c cs =>
          cases ys with
          | nil => simp at hc
          | cons c' ds =>
            cases xs' with
            | nil => simp at hl
            | cons x' xs' =>
              cases ys' with
              | nil => simp at hl'
              | cons y' ys' =>
                obtain ⟨_, hx0, hv⟩ := hx 0 _ rfl
                obtain ⟨_, hy0, hv'⟩ := hy 0 _ rfl
                simp only [List.getElem?_cons_zero, Option.some.injEq] at hx0 hy0
                subst hx0 hy0
                have ih' := fun hr' => ih cs ds xs' ys' hr' (by simpa using hl) (by simpa using hl') (fun i x hi => by simpa using hx (i + 1) x (by simpa using hi)) (fun i x hi => by simpa using hy (i + 1) x (by simpa using hi))
                cases kb with
                | true =>
                  cases c <;> first | (simp [eqCells] at he; done) | skip
                  cases c' <;> first | (simp [eqCells] at he; done) | skip
                  simp only [eqCells] at he
                  split at he
                  · rename_i hjk
                    subst hjk
                    simp only [Option.map_eq_some_iff, Bool.and_eq_true] at he
                    obtain ⟨r', hr', hab, rfl⟩ := he
                    cases hv; cases hv'
                    simp only [beq_iff_eq] at hab
                    subst hab
                    simp only [List.zip_cons_cons, List.all_cons, sameBits_refl_int, Bool.true_and]
                    exact ih' hr'
                  · cases he
                | false =>
                  cases c <;> first | (simp [eqCells] at he; done) | skip
                  cases c' <;> first | (simp [eqCells] at he; done) | skip
                  simp only [eqCells] at he
                  simp only [Option.map_eq_some_iff, Bool.and_eq_true] at he
                  obtain ⟨r', hr', hab, rfl⟩ := he
                  cases hv; cases hv'
                  simp only [beq_iff_eq] at hab
                  subst hab
                  simp only [List.zip_cons_cons, List.all_cons, Instr.sameBits, beq_self_eq_true, Bool.true_and]
                  exact ih' hr'
    have hk1 := key ks xs ys xs'.toList ys'.toList he (by simpa using hxs.1) (by simpa using hys.1) (fun i x hi => by simpa using hxs.2 i x hi) (fun i x hi => by simpa using hys.2 i x hi)
    have hsz : ys'.size = xs'.size := by
      have := eqCells_len he
      rw [← hxs.1, ← hys.1]; omega
    simp only [Instr.sameBits, hsz, beq_self_eq_true, Bool.true_and]
    exact hk1
  · cases h

/-- What is found is an entry whose key is equal. -/
theorem findA_some {C : Ctx} {t : TypeId} {k : AV} : ∀ {es : List (AV × AV)} {i j : Nat} {v : AV}, findA C t k es i = some (some (j, v)) → ∃ e, i ≤ j ∧ es[j - i]? = some e ∧ e.2 = v ∧ keyEqA C t k e.1 = some true
  | [], i, j, v, h => by simp [findA] at h
  | e :: es, i, j, v, h => by
    simp only [findA] at h
    split at h
    · rename_i hq
      simp only [Option.some.injEq, Prod.mk.injEq] at h
      obtain ⟨rfl, rfl⟩ := h
      exact ⟨e, Nat.le_refl _, by simp, rfl, hq⟩
    · obtain ⟨e', h1, h2, h3⟩ := findA_some h
      exact ⟨e', by omega, by rw [show j - i = (j - (i + 1)) + 1 by omega, List.getElem?_cons_succ]; exact h2, h3⟩
    · cases h

theorem setObj_only (w : World) (b : Nat) (o : Obj) : OnlyBlk b w { w with heap := w.heap.setIfInBounds b o } :=
  ⟨rfl, rfl, rfl, by simp, fun k hk => by simp [Array.getElem?_setIfInBounds_ne (Ne.symm hk)]⟩

theorem mapUpdate_sound {C : Ctx} (hC : C.ok) (h : HR M H w) {t : TypeId} {m k v : AV} {H' : Heap} (hl : mapUpdateA C t m k v H = some H') {x y z : Value} (hm : VR M m x) (hk : VR M k y) (hv : VR M v z) :
    ∃ w', (Instr.mapUpdate t x y z).run C.P w = .ok () w' ∧ HR M H' w' ∧ Fr M H w M H' w' := by
  unfold mapUpdateA at hl
  split at hl
  · rename_i kt et id ht
    obtain ⟨pl, hp, rfl⟩ := hm.map_inv
    split at hl
    · rename_i es hid
      obtain ⟨hro, es', clock, hb, he⟩ := h.ent hid hp
      have hlt : id < H.length := (List.getElem?_eq_some_iff.1 hid).1
      have hbl : pl.blk < w.heap.size := h.inb id 0 pl hp
      split at hl
      · rename_i hok
        have hck := checkKey_sound (w := w) hC hok hk false 9998
        have hfin : ∀ (o : Obj), ({ w with heap := w.heap.setIfInBounds pl.blk o } : World).heap[pl.blk]? = some o := fun o => by simp [hbl]
        split at hl
        · rename_i j v₀ hf
          cases hl
          obtain ⟨r', hfk, hr⟩ := findKey_sound (w := w) hC hk hok he hf
          rcases hr with ⟨h0, _⟩ | ⟨j', v', y', h1, rfl, _⟩
          · cases h0
          · cases h1
            obtain ⟨e, _, he2, he3, he4⟩ := findA_some hf
            simp only [Nat.sub_zero] at he2
            obtain ⟨mm, hmm, hkey, hval⟩ := he.2 j e.1 e.2 he2
            have hbits := keyEq_bits he4 hk hkey
            rw [Array.getElem?_toList] at hmm
            have hjlt : j < es'.size := (Array.getElem?_eq_some_iff.1 hmm).1
            have hkts : (Instr.keyThatStays (((es'[j]?).map (·.key)).getD y) y).run C.P w = .ok y w := by
              simp [Instr.keyThatStays, hmm, hbits]
            refine ⟨_, ?_, h.writeMap id es (es.set j (k, v)) hid pl hp (setObj_only w pl.blk _) (es'.modify j fun e => { e with key := y, val := z }) clock (hfin _) ?_ ?_,
              Fr.only (setObj_only w pl.blk _) (by simp) hlt hp hro⟩
            · simp only [Instr.mapUpdate, Sem.run_bind, run_underlying ht, Result.andThen_ok]
              simp only [getObj, Sem.run, hb, Result.andThen_ok, hck, hfk, Sem.run_bind, hkts, setObj]
            · simp [he.1]
            · intro i k' x' hi
              by_cases hij : j = i
              · subst hij
                rw [List.getElem?_set_self (List.getElem?_eq_some_iff.1 he2).1] at hi
                cases hi
                exact ⟨{ mm with key := y, val := z }, by simp [Array.getElem?_modify, hmm], hk, hv⟩
              · rw [List.getElem?_set_ne hij] at hi
                obtain ⟨m', hm', hv'⟩ := he.2 i k' x' hi
                exact ⟨m', by rw [Array.getElem?_modify, if_neg hij]; simpa using hm', hv'⟩
        · rename_i hf
          cases hl
          obtain ⟨r', hfk, hr⟩ := findKey_sound (w := w) hC hk hok he hf
          rcases hr with ⟨_, rfl⟩ | ⟨j', v', y', h1, _⟩
          · refine ⟨_, ?_, h.writeMap id es (es ++ [(k, v)]) hid pl hp (setObj_only w pl.blk _) (es'.push { key := y, val := z, born := clock }) (clock + 1) (hfin _) ?_ ?_,
              Fr.only (setObj_only w pl.blk _) (by simp) hlt hp hro⟩
            · simp only [Instr.mapUpdate, Sem.run_bind, run_underlying ht, Result.andThen_ok]
              simp only [getObj, Sem.run, hb, Result.andThen_ok, hck, hfk, Sem.run_bind, setObj]
            · have := he.1; simp at this; simp [this]
            · intro i k' x' hi
              rw [getElem?_snoc] at hi
              have hl1 : es.length = es'.size := by have := he.1; simpa using this
              split at hi
              · rename_i hi'
                subst hi'
                cases hi
                exact ⟨{ key := y, val := z, born := clock }, by rw [hl1]; simp, hk, hv⟩
              · obtain ⟨m', hm', hv'⟩ := he.2 i k' x' hi
                rw [Array.getElem?_toList] at hm'
                exact ⟨m', by rw [Array.getElem?_push, if_neg (by have := (Array.getElem?_eq_some_iff.1 hm').1; omega)]; exact hm', hv'⟩
          · cases h1
        · cases hl
      · cases hl
    · cases hl
  · cases hl

end Go.Va
end

section
set_option linter.unusedSimpArgs false
set_option linter.unusedVariables false
set_option linter.unusedSectionVars false
namespace Go.Va

variable {P : Program} {M : Plc} {H : Heap} {w : World}

theorem mapM_ok {α β : Type} (f : α → Sem β) (g : α → β) (w : World) : ∀ (l : List α), (∀ a ∈ l, (f a).run P w = .ok (g a) w) → (l.mapM f).run P w = .ok (l.map g) w
  | [], _ => by simp
  | a :: l, h => by
    have ih := mapM_ok f g w l (fun b hb => h b (by simp [hb]))
    simp only [List.mapM_cons, Sem.run_bind, h a (by simp), Result.andThen_ok, ih, Sem.run_pure, List.map_cons]

/-- The parts of a composite value, on both sides. -/
def Parts (M : Plc) (ps : List (Nat × AV)) (qs : List (Nat × Value)) : Prop :=
  ps.length = qs.length ∧ ∀ (i : Nat) p, ps[i]? = some p → ∃ q, qs[i]? = some q ∧ q.1 = p.1 ∧ VR M p.2 q.2

theorem build_sound {t : TypeId} {ps : List (Nat × AV)} {r : AV} (h : buildA P t ps = some r) {qs : Array (Nat × Value)} (hp : Parts M ps qs.toList) :
    ∃ y, (Instr.build t qs).run P w = .ok y w ∧ VR M r y := by
  unfold buildA at h
  split at h
  · rename_i z fields hz ht
    obtain ⟨zx, i, hi, hzi, rfl, hzd, hzb⟩ := zeroA_inv hz
    have hzc := zero_cells (M := M) rfl hzd
    simp only [Option.bind_eq_some_iff] at h
    obtain ⟨cs, hf, h⟩ := h
    split at h
    · rename_i hall
      cases h
      obtain ⟨cells', hfill, hv⟩ := fill_sound _ ps qs.toList _ _ _ hp.1 hp.2 hzc hf
      have hm : (fields.mapM (fun f => do pure (f.offset, ← sizeOf f.type) : Field → Sem (Nat × Nat))).run P w = .ok (fields.map fun f => (f.offset, P.cellsOf f.type)) w := by
        rw [← Array.toArray_toList (xs := fields), List.mapM_toArray]
        simp only [Sem.run_map]
        rw [mapM_ok (P := P) _ (fun f => (f.offset, P.cellsOf f.type)) w fields.toList]
        · simp only [Result.andThen_ok]
          congr 1
          apply Array.ext'
          simp
        · intro f hf'
          have := Array.all_eq_true.1 hall
          obtain ⟨k, hk, rfl⟩ := List.getElem_of_mem hf'
          simp only [Array.length_toList] at hk
          obtain ⟨j, hj⟩ := Option.isSome_iff_exists.1 (this k hk)
          simp only [Array.getElem_toList, Sem.run_bind, run_size hj, Result.andThen_ok, Sem.run_pure, Program.cellsOf, hj, Option.map_some, Option.getD_some]
      have hplace : (fun (i : Nat) => (fields.map fun (f : Field) => (f.offset, P.cellsOf f.type))[i]?) = (fun (i : Nat) => (fields[i]?).bind fun (f : Field) => (P.info? f.type).map fun j => (f.offset, j.size)) := by
        funext k
        simp only [Array.getElem?_map]
        cases hk : fields[k]? with
        | none => rfl
        | some f =>
          have := Array.all_eq_true.1 hall
          have hkl := (Array.getElem?_eq_some_iff.1 hk).1
          have hke := (Array.getElem?_eq_some_iff.1 hk).2
          obtain ⟨j, hj⟩ := Option.isSome_iff_exists.1 (this k hkl)
          rw [hke] at hj
          simp [Program.cellsOf, hj]
      refine ⟨.agg cells', ?_, .agg' hv⟩
      simp only [Instr.build, Sem.run_bind, run_zero hzb, Result.andThen_ok, run_underlying ht, hm]
      rw [hplace, hfill]
      rfl
    · cases h
  · rename_i z len elem hz ht
    obtain ⟨zx, i, hi, hzi, rfl, hzd, hzb⟩ := zeroA_inv hz
    have hzc := zero_cells (M := M) rfl hzd
    simp only [Option.bind_eq_some_iff, Option.map_eq_some_iff] at h
    obtain ⟨j, hj, cs, hf, rfl⟩ := h
    obtain ⟨cells', hfill, hv⟩ := fill_sound _ ps qs.toList _ _ _ hp.1 hp.2 hzc hf
    refine ⟨.agg cells', ?_, .agg' hv⟩
    simp only [Instr.build, Sem.run_bind, run_zero hzb, Result.andThen_ok, run_underlying ht, run_size hj]
    rw [hfill]
    rfl
  · cases h

theorem buildSlice_sound (h : HR M H w) {t : TypeId} {len : Nat} {ps : List (Nat × AV)} {r : AV} {H' : Heap} (hb : buildSliceA P t len ps H = some (r, H')) {qs : Array (Nat × Value)} (hp : Parts M ps qs.toList)
    (hf : Free M H.length H'.length) : ∃ y w', (Instr.buildSlice t len qs).run P w = .ok y w' ∧ Post M H w r H' y w' := by
  unfold buildSliceA at hb
  split at hb
  · rename_i elem ht
    split at hb
    · rename_i i z hi hz
      obtain ⟨zx, i', hi', hzi, rfl, hzd, hzb⟩ := zeroA_inv hz
      rw [hi] at hi'; cases hi'
      split at hb
      · rename_i hc
        obtain ⟨hc1, hc2, hc3⟩ := hc
        simp only [Option.map_eq_some_iff] at hb
        obtain ⟨cs, hfl, hb⟩ := hb
        cases hb
        have hzc := zero_cells (M := M) rfl hzd
        have hzs : zx.cells.size = i.size := by rw [← hzc.1]; exact hc2
        have hz0 := zeroCells_sound (M := M) (z := ofV zx) rfl hzd len
        obtain ⟨cells', hfill, hv⟩ := fill_sound _ ps qs.toList _ _ _ hp.1 hp.2 hz0 hfl
        have hcl : cs.length = len * i.size := by
          have : ∀ (ps : List (Nat × AV)) (c r : List AV) (pl : Nat → Option (Nat × Nat)), fillA pl c ps = some r → r.length = c.length := by
            intro ps
            induction ps with
            | nil => intro c r pl h; simp only [fillA, Option.some.injEq] at h; subst h; rfl
            | cons p ps ih =>
              intro c r pl h
              obtain ⟨k, v⟩ := p
              simp only [fillA] at h
              split at h
              · cases h
              · split at h
                · cases h
                · rw [ih _ _ _ h, putAll_len]
          rw [this _ _ _ _ hfl, zeros_len, hc2]
        have hrun : (Instr.buildSlice t len qs).run P w = .ok (.slice (some ⟨w.heap.size, 0, none⟩) len len) (w.alloc (.cells cells' elem)) := by
          have hne : ¬ (len * i.size > 2 ^ 24) := by omega
          have hrows : (Array.range (len * i.size)).map (fun k => zx.cells[k % zx.cells.size]!) = Builtin.zeroCells zx.cells len := by rw [← rows_eq, hzs]
          simp only [Instr.buildSlice, Sem.run_bind, run_underlying ht, Result.andThen_ok, run_size hi]
          rw [if_neg hne]
          by_cases h0 : len * i.size = 0
          · rw [if_pos h0]
            have hl0 : len = 0 := by
              rcases Nat.mul_eq_zero.1 h0 with h | h
              · exact h
              · omega
            subst hl0
            simp only [Sem.run_bind, Sem.run_pure, Result.andThen_ok, Nat.zero_mul]
            have e0 : (Array.range 0).map (fun k => (#[] : Array Value)[k % (#[] : Array Value).size]!) = Builtin.zeroCells zx.cells 0 := by
              unfold Builtin.zeroCells; simp
            rw [e0, hfill]
            rfl
          · rw [if_neg h0]
            simp only [Sem.run_bind, run_zero hzb, Sem.run_pure, Result.andThen_ok]
            rw [hrows, hfill]
            rfl
        refine ⟨_, _, hrun, ?_⟩
        have := newRow_sound h (by simpa using hf) hv elem len len i.size (by rw [← hv.1, hcl]) (Nat.le_refl _)
        rwa [hcl] at this
      · cases hb
    · cases hb
  · cases hb

theorem wrap_small {n : Int} (h0 : 0 ≤ n) (h1 : n ≤ 2 ^ 47) : IntKind.i64.wrap n = n := by
  have h2 : n % 2 ^ 64 = n := Int.emod_eq_of_lt h0 (by omega)
  have h3 : ¬ ((true && decide (n ≥ 2 ^ (64 - 1))) = true) := by simp; omega
  simp only [IntKind.wrap, IntKind.bits, IntKind.signed, h2]
  rw [if_neg h3]

theorem makeSlice_sound (h : HR M H w) {t : TypeId} {l c : AV} {r : AV} {H' : Heap} (hb : makeSliceA P t l c H = some (r, H')) {lx cx : Value} (hl : VR M l lx) (hc : VR M c cx)
    (hf : Free M H.length H'.length) : ∃ y w', (Instr.makeSlice t lx cx).run P w = .ok y w' ∧ Post M H w r H' y w' := by
  unfold makeSliceA at hb
  split at hb
  · rename_i elem k n k' m ht
    cases hl; cases hc
    split at hb
    · rename_i i z hi hz
      obtain ⟨zx, i', hi', hzi, rfl, hzd, hzb⟩ := zeroA_inv hz
      rw [hi] at hi'; cases hi'
      split at hb
      · rename_i hcond
        obtain ⟨h0, hle, hmax, hby, hzl, hsz⟩ := hcond
        cases hb
        have hzc := zero_cells (M := M) rfl hzd
        have hzs : zx.cells.size = i.size := by rw [← hzc.1]; exact hzl
        have hz0 := zeroCells_sound (M := M) (z := ofV zx) rfl hzd m.toNat
        have wn := wrap_small h0 (by omega)
        have wm := wrap_small (n := m) (by omega) hmax
        have hrows : (Array.range (m.toNat * i.size)).map (fun k => zx.cells[k % zx.cells.size]!) = Builtin.zeroCells zx.cells m.toNat := by rw [← rows_eq, hzs]
        have hrun : (Instr.makeSlice t (.int k n) (.int k' m)).run P w = .ok (.slice (some ⟨w.heap.size, 0, none⟩) n.toNat m.toNat) (w.alloc (.cells (Builtin.zeroCells zx.cells m.toNat) elem)) := by
          have hmul : (i.bytes : Int) * m ≤ 2 ^ 48 := hby
          have hcondf : ((decide (m < 0) || decide ((i.bytes : Int) * m > 2 ^ 48)) || decide (n < 0) || decide (n > m)) = false := by
            simp; omega
          simp only [Instr.makeSlice, Sem.run_bind, run_underlying ht, Result.andThen_ok, asInt, asIntOf, Sem.run_pure, run_info hi, wn, wm]
          rw [if_neg (by rw [hcondf]; simp)]
          simp only [Sem.run_bind, run_askRoom, Result.andThen_ok, run_size hi]
          by_cases hz1 : m.toNat * i.size = 0
          · rw [if_pos hz1]
            have hm0 : m.toNat = 0 := by
              rcases Nat.mul_eq_zero.1 hz1 with h | h
              · exact h
              · omega
            simp only [Sem.run_bind, Sem.run_pure, Result.andThen_ok, hm0, Nat.zero_mul]
            have e0 : (Array.range 0).map (fun k => (#[] : Array Value)[k % (#[] : Array Value).size]!) = Builtin.zeroCells zx.cells 0 := by
              unfold Builtin.zeroCells; simp
            rw [e0]
            rfl
          · rw [if_neg hz1]
            simp only [Sem.run_bind, run_zero hzb, Sem.run_pure, Result.andThen_ok]
            rw [hrows]
            rfl
        refine ⟨_, _, hrun, ?_⟩
        have := newRow_sound h (by simpa using hf) hz0 elem n.toNat m.toNat i.size (by rw [size_zeroCells, hzs]) (by omega)
        rwa [zeros_len, hzl] at this
      · cases hb
    · cases hb
  · cases hb

theorem clear_sound (h : HR M H w) {t : TypeId} {v : AV} {H' : Heap} (hb : clearA P t v H = some H') {x : Value} (hv : VR M v x) {ts : Array TypeId} (hts : ts[0]? = some t) (ty : TypeId) :
    ∃ w', (Builtin.clear_ ts ty #[x]).run P w = .ok (.tuple #[]) w' ∧ HR M H' w' ∧ Fr M H w M H' w' := by
  unfold clearA at hb
  split at hb
  · rename_i e ht
    cases hb; cases hv
    exact ⟨w, by simp [Builtin.clear_, hts, run_underlying ht], h, .refl M H w⟩
  · rename_i elem id off len ver sz ht
    split at hb
    · rename_i i z c e born ro hi hz hid
      obtain ⟨zx, i', hi', hzi, rfl, hzd, hzb⟩ := zeroA_inv hz
      rw [hi] at hi'; cases hi'
      obtain ⟨a, cap, pl, rfl, hp, hsz', hcap, hlen', hee, haa⟩ := hv.sl_inv
      split at hb
      · rename_i h0
        cases hb
        subst h0
        exact ⟨w, by simp [Builtin.clear_, hts, run_underlying ht], h, .refl M H w⟩
      · rename_i h0
        split at hb
        · rename_i hc
          obtain ⟨rfl, rfl, hborn, rfl, hzl, hfit, hone⟩ := hc
          cases hb
          have hlt : id < H.length := (List.getElem?_eq_some_iff.1 hid).1
          have hold := h.cells id c e born false hid c.length pl hp
          obtain ⟨arr, el, fz, harr, hn, hcr, hr⟩ := hold.2.2 hborn
          obtain ⟨hbase, rfl, hsize, hvcap, hel⟩ := hr rfl
          subst hel
          rw [hbase] at haa hcr
          have hz0 := zeroCells_sound (M := M) (z := ofV zx) rfl hzd len
          have hzlen : (zeros (ofV zx).cells len).length = len * i.size := by rw [zeros_len, hzl]
          have hmul : (off + len) * i.size = off * i.size + len * i.size := Nat.add_mul _ _ _
          have hzone : (zeros (ofV zx).cells len).all AV.one = true := by
            rw [List.all_eq_true] at hone ⊢
            intro y hy
            unfold zeros at hy
            simp only [List.mem_flatten, List.mem_replicate] at hy
            obtain ⟨l, ⟨_, rfl⟩, hy⟩ := hy
            exact hone y hy
          obtain ⟨hput, hput'⟩ := hcr.put hz0 (off * i.size) (by omega) (by omega)
          have hsl : (Builtin.zeroCells zx.cells len).toList.length = len * i.size := by rw [Array.length_toList, ← hz0.1, hzlen]
          have hrun := run_storeCells_at P pl.blk (off * i.size) el (Builtin.zeroCells zx.cells len).toList 0 arr w harr (by rw [hsl]; omega) (hz0.oneCells hzone)
          simp only [Nat.add_zero] at hrun
          refine ⟨_, ?_, h.write id c _ el born hid pl hp (putAll_len _ _ _) (setRow_only w pl.blk _) arr _ el harr (setRow_heap w _ arr _ el _ harr) hput' hborn hput,
            Fr.only (setRow_only w pl.blk _) (by simp) hlt hp hold.2.1⟩
          rw [haa (by omega)]
          cases len with
          | zero => exact absurd rfl h0
          | succ len => simp only [Builtin.clear_, hts, List.getElem?_toArray, List.getElem?_cons_zero, Sem.run_bind, run_underlying ht, Result.andThen_ok, run_zero hzb, Nat.zero_add, hrun, Sem.run_pure]
        · cases hb
    · cases hb
  · cases hb

end Go.Va
end

section
set_option linter.unusedSimpArgs false
set_option linter.unusedVariables false
set_option linter.unusedSectionVars false
namespace Go.Va

variable {P : Program} {M : Plc} {H : Heap} {w : World}

/-- A call that the interpreter answers is one that the model makes. -/
def CallOk (C : Ctx) (call : CallF) : Prop :=
  ∀ f args H v H', call f args H = some (v, H') → ∀ M w xs, HR M H w → Free M H.length H'.length → VRs M args xs →
    H.length ≤ H'.length ∧ (∃ fn, C.P.funcs[f]? = some fn ∧ fn.body.isSome = true ∧ fn.name ≠ "runtime.NumGoroutine") ∧ Calls C.P f xs w fun e w' => ∃ x, e = .returned x ∧ Post M H w v H' x w'

/-- What an operation does. -/
def Does (P : Program) (o : Oper) (a : Act) (w : World) (Q : Value → World → Prop) : Prop :=
  (∃ x w', (execOp a.eval o).run P w = .ok (.value x) w' ∧ Q x w') ∨ (∃ w', (execOp a.eval o).run P w = .ok .skip w' ∧ Q undef w') ∨
  ∃ f args w', (execOp a.eval o).run P w = .ok (.enter f args) w' ∧ Calls P f args w' fun e w'' => ∃ x, e = .returned x ∧ Q x w''

theorem Does.mono {o : Oper} {a : Act} {Q Q' : Value → World → Prop} (h : Does P o a w Q) (hq : ∀ x w', Q x w' → Q' x w') : Does P o a w Q' := by
  rcases h with ⟨x, w', h1, h2⟩ | ⟨w', h1, h2⟩ | ⟨f, args, w', h1, h2⟩
  · exact .inl ⟨x, w', h1, hq _ _ h2⟩
  · exact .inr (.inl ⟨w', h1, hq _ _ h2⟩)
  · exact .inr (.inr ⟨f, args, w', h1, h2.mono fun e w'' ⟨x, he, hx⟩ => ⟨x, he, hq _ _ hx⟩⟩)

theorem Does.wp {o : Oper} {a : Act} {R : Value → World → Prop} (h : Does P o a w R) {next : Act → World → Prop} {Q : Exit → Act → World → Prop} (hn : ∀ x w', R x w' → next (a.put o.dst x) w') : o.wp P a w next Q := by
  unfold Oper.wp
  rcases h with ⟨x, w', h1, h2⟩ | ⟨w', h1, h2⟩ | ⟨f, args, w', h1, h2⟩
  · rw [h1]; exact hn _ _ h2
  · rw [h1]; exact hn _ _ h2
  · rw [h1]
    refine h2.mono ?_
    rintro e w'' ⟨x, rfl, hx⟩
    exact hn _ _ hx

theorem VR.undef : VR M (.tup []) undef := .tup [] #[] rfl (fun i h => by simp at h)

theorem free_one {a b : Nat} (h : b = a + 1) {M : Plc} (hf : Free M a b) : Free M a (a + 1) := by subst h; exact hf

theorem vrs_map {ρ : Env} {a : Act} (xs : Array Operand) (h : ∀ x ∈ xs, VR M (opnd ρ x) (a.eval x)) : VRs M (xs.toList.map (opnd ρ)) (xs.map a.eval) :=
  ⟨by simp, fun i v hv => by
    simp only [List.getElem?_map, Option.map_eq_some_iff, Array.getElem?_toList] at hv
    obtain ⟨x, hx, rfl⟩ := hv
    exact ⟨a.eval x, by simp [hx], h x (Array.mem_of_getElem? hx)⟩⟩

theorem VRs.append {as bs : List AV} {xs ys : Array Value} (h : VRs M as xs) (k : VRs M bs ys) : VRs M (as ++ bs) (xs ++ ys) := by
  refine ⟨by simp [h.1, k.1], fun i v hv => ?_⟩
  by_cases hi : i < as.length
  · rw [List.getElem?_append_left hi] at hv
    obtain ⟨y, hy, hvy⟩ := h.2 i v hv
    exact ⟨y, by rw [Array.getElem?_append_left (by rw [← h.1]; exact hi)]; exact hy, hvy⟩
  · rw [List.getElem?_append_right (by omega)] at hv
    obtain ⟨y, hy, hvy⟩ := k.2 _ v hv
    exact ⟨y, by rw [Array.getElem?_append_right (by rw [← h.1]; omega), ← h.1]; exact hy, hvy⟩

theorem parts_map {ρ : Env} {a : Act} (ps : Array (Nat × Operand)) (h : ∀ x ∈ (ps.toList.map (·.2)).toArray, VR M (opnd ρ x) (a.eval x)) :
    Parts M (ps.toList.map fun p => (p.1, opnd ρ p.2)) (ps.map fun (i, x) => (i, a.eval x)).toList := by
  refine ⟨by simp, ?_⟩
  intro i p hp
  simp only [List.getElem?_map, Option.map_eq_some_iff, Array.getElem?_toList] at hp
  obtain ⟨q, hq, rfl⟩ := hp
  refine ⟨(q.1, a.eval q.2), by simp [hq], rfl, h q.2 ?_⟩
  simp only [List.mem_toArray, List.mem_map, Array.mem_toList_iff]
  exact ⟨q, Array.mem_of_getElem? hq, rfl⟩

theorem builtin_sound {C : Ctx} {b : Builtin} {ts : Array TypeId} {args : List AV} {v : AV} {H' : Heap} (h : builtinA C.P b ts args H = some (v, H')) (hH : HR M H w) (hf : Free M H.length H'.length)
    {xs : Array Value} (hx : VRs M args xs) (ty : TypeId) (consts : Array Bool) : ∃ x w', (builtin b ts ty consts xs).run C.P w = .ok (.value x) w' ∧ Post M H w v H' x w' := by
  have one : ∀ {a : AV}, args = [a] → ∃ x, xs = #[x] ∧ VR M a x := by
    intro a ha
    subst ha
    have hl := hx.1
    obtain ⟨y, hy, hv⟩ := hx.2 0 a rfl
    refine ⟨y, ?_, hv⟩
    apply Array.ext_getElem?
    intro i
    match i with
    | 0 => simpa using hy
    | i + 1 => simp at hl; simp [Array.getElem?_eq_none, ← hl]
  have two : ∀ {a b : AV}, args = [a, b] → ∃ x y, xs = #[x, y] ∧ VR M a x ∧ VR M b y := by
    intro a b ha
    subst ha
    have hl := hx.1
    obtain ⟨y, hy, hv⟩ := hx.2 0 a rfl
    obtain ⟨z, hz, hv'⟩ := hx.2 1 b rfl
    refine ⟨y, z, ?_, hv, hv'⟩
    apply Array.ext_getElem?
    intro i
    match i with
    | 0 => simpa using hy
    | 1 => simpa using hz
    | i + 2 => simp at hl; simp [Array.getElem?_eq_none, ← hl]
  unfold builtinA at h
  split at h
  · simp only [Option.bind_eq_some_iff, Option.map_eq_some_iff] at h
    obtain ⟨t, ht, r, hr, h⟩ := h
    cases h
    obtain ⟨x, rfl, hvx⟩ := one rfl
    obtain ⟨y, hy, hvy⟩ := len_sound (w := w) hr hvx ts ht ty
    exact ⟨y, w, by simp [builtin, hy], .same hH hvy⟩
  · split at h
    · rename_i t u ht hu
      obtain ⟨x, y, rfl, hvx, hvy⟩ := two rfl
      split at h
      · rename_i hc
        obtain ⟨hsz, rfl⟩ := hc
        have hts : ts = #[u, u] := by
          apply Array.ext_getElem?
          intro i
          match i with
          | 0 => simpa using ht
          | 1 => simpa using hu
          | i + 2 => simp [Array.getElem?_eq_none, hsz]
        subst hts
        obtain ⟨z, w', hr, hp⟩ := append_sound hH h hvx hvy hf rfl ty
        exact ⟨z, w', by simp [builtin, hr], hp⟩
      · cases h
    · cases h
  · simp only [Option.map_eq_some_iff] at h
    obtain ⟨r, hr, h⟩ := h
    cases h
    obtain ⟨x, y, rfl, hvx, hvy⟩ := two rfl
    obtain ⟨z, hz, hvz⟩ := min_sound (P := C.P) (w := w) hr hvx hvy
    exact ⟨z, w, by simp [builtin, Builtin.min_, hz], .same hH hvz⟩
  · simp only [Option.map_eq_some_iff] at h
    obtain ⟨r, hr, h⟩ := h
    cases h
    obtain ⟨x, y, rfl, hvx, hvy⟩ := two rfl
    obtain ⟨z, hz, hvz⟩ := max_sound (P := C.P) (w := w) hr hvx hvy
    exact ⟨z, w, by simp [builtin, Builtin.max_, hz], .same hH hvz⟩
  · simp only [Option.bind_eq_some_iff, Option.map_eq_some_iff] at h
    obtain ⟨t, ht, r, hr, h⟩ := h
    cases h
    obtain ⟨x, rfl, hvx⟩ := one rfl
    obtain ⟨w', hy, h1, h2⟩ := clear_sound hH hr hvx ht ty
    exact ⟨undef, w', by simp [builtin, hy, Go.undef], M, .undef, h1, h2⟩
  · cases h

set_option maxHeartbeats 4000000 in
theorem op_sound {C : Ctx} (hC : C.ok) {call : CallF} (hcall : CallOk C call) {o : Oper} {ρ : Env} {a : Act} {v : AV} {H' : Heap} (h : opA C call o ρ H = some (v, H')) (hH : HR M H w) (hf : Free M H.length H'.length)
    (hρ : ∀ x ∈ o.op.operands, VR M (opnd ρ x) (a.eval x)) : H.length ≤ H'.length ∧ Does C.P o a w (Post M H w v H') := by
  have pure1 : ∀ {r : AV} {s : Sem Value} {x : Value}, (execOp a.eval o = do pure (.value (← s))) → s.run C.P w = .ok x w → VR M r x → r = v → H = H' → H.length ≤ H'.length ∧ Does C.P o a w (Post M H w v H') := by
    intro r s x he hs hx hr hh
    subst hr hh
    exact ⟨Nat.le_refl _, .inl ⟨x, w, by rw [he]; simp [hs], .same hH hx⟩⟩
  have made : ∀ {s : Sem Value} {x : Value} {w' : World}, (execOp a.eval o = do pure (.value (← s))) → s.run C.P w = .ok x w' → Post M H w v H' x w' → H.length ≤ H'.length ∧ Does C.P o a w (Post M H w v H') := by
    intro s x w' he hs hp
    exact ⟨hp.choose_spec.2.2.len, .inl ⟨x, w', by rw [he]; simp [hs], hp⟩⟩
  have wrote : ∀ {s : Sem Unit} {w' : World}, (execOp a.eval o = do s; pure .skip) → s.run C.P w = .ok () w' → HR M H' w' → Fr M H w M H' w' → v = .tup [] → H.length ≤ H'.length ∧ Does C.P o a w (Post M H w v H') := by
    intro s w' he hs h1 h2 hv
    subst hv
    exact ⟨h2.len, .inr (.inl ⟨w', by rw [he]; simp [hs], M, .undef, h1, h2⟩)⟩
  unfold opA at h
  split at h
  · rename_i x ho
    cases h
    have hx := hρ x (by simp [ho, Op.operands])
    exact ⟨Nat.le_refl _, .inl ⟨a.eval x, w, by simp [execOp, ho], .same hH hx⟩⟩
  · rename_i x ho
    cases h
    have hx := hρ x (by simp [ho, Op.operands])
    exact ⟨Nat.le_refl _, .inl ⟨a.eval x, w, by simp [execOp, ho], .same hH hx⟩⟩
  · rename_i c x y ho
    split at h
    · rename_i t hc
      cases h
      have h0 := hρ c (by simp [ho, Op.operands])
      rw [hc] at h0
      generalize hce : a.eval c = cv at h0
      cases h0
      have hx := hρ x (by simp [ho, Op.operands])
      have hy := hρ y (by simp [ho, Op.operands])
      refine ⟨Nat.le_refl _, .inl ⟨if t then a.eval x else a.eval y, w, by simp [execOp, ho, hce, asBool], .same hH ?_⟩⟩
      cases t
      · exact hy
      · exact hx
    · cases h
  · rename_i t ho
    simp only [Option.map_eq_some_iff] at h
    obtain ⟨z, hz, h⟩ := h
    cases h
    obtain ⟨zx, i, hi, hzi, rfl, hzd, hzb⟩ := zeroA_inv hz
    refine made (s := Instr.alloc t true (.tuple #[])) (by simp [execOp, ho]) ?_ (newVar_sound hH (by simpa using hf) (.ofV zx) hzd t)
    simp only [Instr.alloc, Sem.run_bind, run_zero hzb, Result.andThen_ok, newVar, newRow, run_newObj, Sem.run_pure]
    rfl
  · rename_i t x ho
    have hx := hρ x (by simp [ho, Op.operands])
    split at h
    · cases h
    · rename_i hd
      cases h
      have hdd : (opnd ρ x).isDead = false := by
        cases hxx : opnd ρ x <;> first | rfl | exact absurd hxx (hd)
      refine made (s := Instr.box t (a.eval x)) (by simp [execOp, ho]) ?_ (newVar_sound hH (by simpa using hf) hx hdd t)
      simp only [Instr.box, Sem.run_bind, newVar, newRow, run_newObj, Result.andThen_ok, Sem.run_pure]
      rfl
  · rename_i t parts ho
    simp only [Option.map_eq_some_iff] at h
    obtain ⟨r, hr, h⟩ := h
    cases h
    obtain ⟨y, hy, hv⟩ := build_sound (P := C.P) (w := w) hr (parts_map parts (fun x hx => hρ x (by simpa [ho, Op.operands] using hx)))
    exact pure1 (s := Instr.build t (parts.map fun (i, x) => (i, a.eval x))) (by simp [execOp, ho]) hy hv rfl rfl
  · rename_i t len parts ho
    obtain ⟨y, w', hy, hp⟩ := buildSlice_sound hH h (parts_map parts (fun x hx => hρ x (by simpa [ho, Op.operands] using hx))) hf
    exact made (s := Instr.buildSlice t len (parts.map fun (i, x) => (i, a.eval x))) (by simp [execOp, ho]) hy hp
  · rename_i t m k x ho
    simp only [Option.map_eq_some_iff, Prod.mk.injEq] at h
    obtain ⟨r, hr, h1, rfl⟩ := h
    obtain ⟨w', hy, h2, h3⟩ := mapUpdate_sound hC hH hr (hρ m (by simp [ho, Op.operands])) (hρ k (by simp [ho, Op.operands])) (hρ x (by simp [ho, Op.operands]))
    exact wrote (s := Instr.mapUpdate t (a.eval m) (a.eval k) (a.eval x)) (by simp [execOp, ho]) hy h2 h3 h1.symm
  · rename_i t x ho
    have hx := hρ x (by simp [ho, Op.operands])
    split at h
    · rename_i id off ver hxx
      simp only [Option.map_eq_some_iff] at h
      obtain ⟨r, hr, h⟩ := h
      cases h
      rw [hxx] at hx
      obtain ⟨pl, hp, he⟩ := hx.ptr_inv
      obtain ⟨y, hy, hv⟩ := load_sound hH hr hp
      exact pure1 (s := Instr.loadAt t (a.eval x)) (by simp [execOp, ho]) (by simp [Instr.loadAt, he, Instr.sureAddr, hy]) hv rfl rfl
    · cases h
  · rename_i t x y ho
    have hx := hρ x (by simp [ho, Op.operands])
    have hyv := hρ y (by simp [ho, Op.operands])
    split at h
    · rename_i id off ver hxx
      simp only [Option.map_eq_some_iff, Prod.mk.injEq] at h
      obtain ⟨r, hr, h1, rfl⟩ := h
      rw [hxx] at hx
      obtain ⟨pl, hp, he⟩ := hx.ptr_inv
      obtain ⟨w', hy, h2, h3⟩ := store_sound hH hr hp hyv
      exact wrote (s := Instr.storeAt t (a.eval x) (a.eval y)) (by simp [execOp, ho]) (by simp [Instr.storeAt, he, Instr.sureAddr, hy]) h2 h3 h1.symm
    · cases h
  · rename_i x ho
    have hx := hρ x (by simp [ho, Op.operands])
    split at h
    · rename_i id off ver hxx
      cases h
      rw [hxx] at hx
      obtain ⟨pl, hp, he⟩ := hx.ptr_inv
      refine ⟨Nat.le_refl _, .inl ⟨_, w, by simp [execOp, ho, he], .same hH (.ptr _ _ _ pl hp)⟩⟩
    · rename_i f c hxx
      cases h
      rw [hxx] at hx
      obtain ⟨xs, he, hv⟩ := hx.fn_inv
      refine ⟨Nat.le_refl _, .inl ⟨_, w, by simp [execOp, ho, he], .same hH (.fn' hv)⟩⟩
    · cases h
  · rename_i op t x y ty ho
    simp only [Option.map_eq_some_iff] at h
    obtain ⟨r, hr, h⟩ := h
    cases h
    obtain ⟨z, hz, hv⟩ := bin_sound (w := w) hC hr (hρ x (by simp [ho, Op.operands])) (hρ y (by simp [ho, Op.operands])) x y
    exact pure1 (s := eqGuard op t x y (a.eval x) (a.eval y) >>= fun _ => binOp op t (a.eval x) (a.eval y)) (by simp [execOp, ho]) hz hv rfl rfl
  · rename_i op t x ho
    simp only [Option.map_eq_some_iff] at h
    obtain ⟨r, hr, h⟩ := h
    cases h
    obtain ⟨z, hz, hv⟩ := un_sound (P := C.P) (w := w) hr (hρ x (by simp [ho, Op.operands]))
    exact pure1 (s := Op.unary op (a.eval x)) (by simp [execOp, ho]) hz hv rfl rfl
  · rename_i s d x ho
    simp only [Option.map_eq_some_iff] at h
    obtain ⟨r, hr, h⟩ := h
    cases h
    obtain ⟨z, hz, hv⟩ := conv_sound (w := w) hr (hρ x (by simp [ho, Op.operands]))
    exact pure1 (s := convert s d (a.eval x)) (by simp [execOp, ho]) hz hv rfl rfl
  · rename_i f first captured ho
    split at h
    · rename_i h0
      cases h
      have hf0 : first = #[] := Array.eq_empty_of_size_eq_zero h0
      subst hf0
      have hv := vrs_map captured (fun x hx => hρ x (by simp [ho, Op.operands, hx]))
      exact pure1 (s := Instr.makeFunc (.func f) #[] (captured.map a.eval)) (by simp [execOp, ho]) rfl (.fn' hv) rfl rfl
    · cases h
  · rename_i t ho
    cases h
    have hfree : Free M H.length (H.length + 1) := by simpa using hf
    refine made (s := Instr.makeMap t none) (x := .map (some w.heap.size)) (w' := w.alloc (.map #[] 0)) (by simp [execOp, ho]) (by simp [Instr.makeMap])
      ⟨_, .map _ ⟨w.heap.size, 0, 0, 0, false⟩ upd_ver, hH.pushMap hfree, Fr.push hfree 0 _ rfl _ _⟩
  · rename_i t l c ho
    obtain ⟨y, w', hy, hp⟩ := makeSlice_sound hH h (hρ l (by simp [ho, Op.operands])) (hρ c (by simp [ho, Op.operands])) hf
    exact made (s := Instr.makeSlice t (a.eval l) (a.eval c)) (by simp [execOp, ho]) hy hp
  · rename_i t x lo hi ho
    simp only [Option.map_eq_some_iff] at h
    obtain ⟨r, hr, h⟩ := h
    cases h
    obtain ⟨z, hz, hv⟩ := slice_sound (w := w) hr (hρ x (by simp [ho, Op.operands])) (lo' := lo.map a.eval) (hi' := hi.map a.eval)
      (by intro v hv; simp only [Option.map_eq_some_iff] at hv; obtain ⟨y, rfl, rfl⟩ := hv; exact ⟨_, rfl, hρ y (by simp [ho, Op.operands])⟩) (by intro h0; simpa using h0)
      (by intro v hv; simp only [Option.map_eq_some_iff] at hv; obtain ⟨y, rfl, rfl⟩ := hv; exact ⟨_, rfl, hρ y (by simp [ho, Op.operands])⟩) (by intro h0; simpa using h0)
    exact pure1 (s := Instr.sliceAt t (a.eval x) (lo.map a.eval) (hi.map a.eval) none) (by simp [execOp, ho]) hz hv rfl rfl
  · rename_i s x f ho
    simp only [Option.map_eq_some_iff] at h
    obtain ⟨r, hr, h⟩ := h
    cases h
    obtain ⟨z, hz, hv⟩ := fieldAddr_sound (w := w) hr (hρ x (by simp [ho, Op.operands]))
    exact pure1 (s := Instr.fieldAt s (a.eval x) f) (by simp [execOp, ho]) hz hv rfl rfl
  · rename_i s x f ho
    simp only [Option.map_eq_some_iff] at h
    obtain ⟨r, hr, h⟩ := h
    cases h
    obtain ⟨z, hz, hv⟩ := field_sound (w := w) hr (hρ x (by simp [ho, Op.operands]))
    exact pure1 (s := Instr.field s (a.eval x) f) (by simp [execOp, ho]) hz hv rfl rfl
  · rename_i t x i ho
    simp only [Option.map_eq_some_iff] at h
    obtain ⟨r, hr, h⟩ := h
    cases h
    obtain ⟨z, hz, hv⟩ := indexAddr_sound (w := w) hr (hρ x (by simp [ho, Op.operands])) (hρ i (by simp [ho, Op.operands]))
    exact pure1 (s := Instr.indexAt t (a.eval x) (a.eval i)) (by simp [execOp, ho]) hz hv rfl rfl
  · rename_i t x i ho
    simp only [Option.map_eq_some_iff] at h
    obtain ⟨r, hr, h⟩ := h
    cases h
    obtain ⟨z, hz, hv⟩ := index_sound (w := w) hr (hρ x (by simp [ho, Op.operands])) (hρ i (by simp [ho, Op.operands]))
    exact pure1 (s := Instr.index t (a.eval x) (a.eval i)) (by simp [execOp, ho]) hz hv rfl rfl
  · rename_i t x k ok ho
    simp only [Option.map_eq_some_iff] at h
    obtain ⟨r, hr, h⟩ := h
    cases h
    obtain ⟨z, hz, hv⟩ := lookup_sound hC hH hr (hρ x (by simp [ho, Op.operands])) (hρ k (by simp [ho, Op.operands]))
    exact pure1 (s := Instr.lookup t (a.eval x) (a.eval k) ok) (by simp [execOp, ho]) hz hv rfl rfl
  · rename_i t m k x ho
    simp only [Option.map_eq_some_iff, Prod.mk.injEq] at h
    obtain ⟨r, hr, h1, rfl⟩ := h
    obtain ⟨w', hy, h2, h3⟩ := mapUpdate_sound hC hH hr (hρ m (by simp [ho, Op.operands])) (hρ k (by simp [ho, Op.operands])) (hρ x (by simp [ho, Op.operands]))
    exact wrote (s := Instr.mapUpdate t (a.eval m) (a.eval k) (a.eval x)) (by simp [execOp, ho]) hy h2 h3 h1.symm
  · rename_i t i ho
    have hx := hρ t (by simp [ho, Op.operands])
    split at h
    · rename_i vs hxx
      simp only [Option.map_eq_some_iff] at h
      obtain ⟨r, hr, h⟩ := h
      cases h
      rw [hxx] at hx
      obtain ⟨xs, he, hv⟩ := hx.tup_inv
      obtain ⟨y, hy, hvy⟩ := hv.2 i _ hr
      exact pure1 (s := Instr.extract (a.eval t) i) (by simp [execOp, ho]) (by simp [Instr.extract, he, hy]) hvy rfl rfl
    · cases h
  · rename_i b args ts ho
    have hv := vrs_map args (fun x hx => hρ x (by simp [ho, Op.operands, Call.operands, hx]))
    obtain ⟨x, w', hr, hp⟩ := builtin_sound h hH hf hv o.type (args.map fun | .const _ => true | _ => false)
    exact ⟨hp.choose_spec.2.2.len, .inl ⟨x, w', by simp only [execOp, ho, resolve, Sem.run_bind, Sem.run_pure, Result.andThen_ok, invoke]; exact hr, hp⟩⟩
  · rename_i f args ts ho
    have hx := hρ f (by simp [ho, Op.operands, Call.operands])
    have hv := vrs_map args (fun x hx => hρ x (by simp [ho, Op.operands, Call.operands, hx]))
    split at h
    · rename_i g cap hxx
      rw [hxx] at hx
      obtain ⟨xs, he, hcap⟩ := hx.fn_inv
      obtain ⟨hlen, ⟨fn, hfn, hbody, hname⟩, hc⟩ := hcall g _ H v H' h M w _ hH hf (hv.append hcap)
      refine ⟨hlen, .inr (.inr ⟨g, args.map a.eval ++ xs, w, ?_, hc⟩)⟩
      have hb : fn.body.isNone = false := by cases hh : fn.body <;> simp_all
      have hn : (fn.name == "runtime.NumGoroutine") = false := by simpa using hname
      simp only [execOp, ho, resolve, he, Deferred.ofValue, Sem.run_bind, Sem.run_pure, Result.andThen_ok, invoke, callFunc, run_program, hfn, hn, hb, Bool.false_eq_true, if_false, Array.empty_append]
    · cases h
  · cases h

end Go.Va
end
