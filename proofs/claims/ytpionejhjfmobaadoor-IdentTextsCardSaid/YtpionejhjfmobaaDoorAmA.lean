/- AmA -/
import Derived.Orders
import Derived.Scope
import Derived.Below
import Derived.Laws.Externs
import Derived.Calls
import Derived.Lib.ItoaNum
import Derived.Laws.Cells
import Derived.Laws.Tables
import Derived.Laws.Append
import Derived.Laws.AppendOwn
import Derived.Laws.StructEq
import Derived.Laws.Slices
set_option linter.unusedVariables false
set_option linter.unusedSimpArgs false
namespace Go.Am

/-! ### Frames -/
abbrev Fr := Nat → Value
def Fr.set (f : Fr) (t : Nat) (v : Value) : Fr := fun i => if i = t then v else f i
def Fr.put (f : Fr) (d : Option Tmp) (v : Value) : Fr :=
  match d with
  | some t => f.set t v
  | none => f
def ev (f : Fr) : Operand → Value
  | .tmp t => f t
  | .const v => v
  | .global g => .pointer (some ⟨g, 0, none⟩)
  | .func g => .func (.func g) #[] #[]

/-! ### Heaps -/
inductive AObj where
  | dead
  | cells (c : List Value) (elem : TypeId) (chain : Nat)
  | map (es : List MapEntry) (clock : Nat)

structure AHeap where
  old : World
  next : Nat
  get : Nat → AObj

def AHeap.base (σ : AHeap) : Nat := σ.old.heap.size
def AHeap.put (σ : AHeap) (j : Nat) (o : AObj) : AHeap := { σ with get := fun i => if i = j then o else σ.get i }
def AHeap.push (σ : AHeap) (o : AObj) : AHeap := { σ with next := σ.next + 1, get := fun i => if i = σ.next then o else σ.get i }
/-- The other blocks of a chain that reach beyond 'lim' are given up. -/
def AHeap.kill (σ : AHeap) (ch keep lim : Nat) : AHeap :=
  { σ with get := fun j =>
      match σ.get j with
      | .cells c e ch' => if ch' = ch ∧ j ≠ keep ∧ (lim < c.length ∨ lim = 0) then .dead else .cells c e ch'
      | o => o }

/-- What of an old cell may be read: no address of a block that is not old. -/
def oldOk (base : Nat) : Value → Bool
  | .bool _ | .int _ _ | .string _ | .pointer none | .nilFunc | .nilIface | .map none => true
  | .pointer (some a) => decide (a.block < base) && a.spot.isNone
  | .slice none n c => decide (n = 0) && decide (c = 0)
  | .slice (some a) n c => decide (a.block < base) && a.spot.isNone && decide (n ≤ c)
  | _ => false

def rdOld (w : World) (a : Addr) : Nat → Option (List Value)
  | 0 => some []
  | n + 1 =>
    match w.cell? ⟨a.block, a.off, none⟩ with
    | some v => if oldOk w.heap.size v then (rdOld w ⟨a.block, a.off + 1, none⟩ n).map (v :: ·) else none
    | none => none

/-- The n cells from an address on. -/
def rd (σ : AHeap) (a : Addr) (n : Nat) : Option (List Value) :=
  if a.spot.isSome then none
  else if a.block < σ.base then rdOld σ.old a n
  else
    match σ.get a.block with
    | .cells c _ _ => if a.off + n ≤ c.length then some ((c.drop a.off).take n) else none
    | _ => none

def splice (c : List Value) (off : Nat) (vs : List Value) : List Value := c.take off ++ vs ++ c.drop (off + vs.length)

def wr (σ : AHeap) (a : Addr) (vs : List Value) : Option AHeap :=
  if a.spot.isSome then none
  else if a.block < σ.base then none
  else
    match σ.get a.block with
    | .cells c e ch => if a.off + vs.length ≤ c.length then some ((σ.kill ch a.block a.off).put a.block (.cells (splice c a.off vs) e ch)) else none
    | _ => none

/-! ### Types -/
def szOf (P : Program) (t : TypeId) : Option Nat := (P.info? t).map (·.size)
def constCell : Value → Bool
  | .bool _ | .int _ _ | .float _ _ | .complex _ _ _ | .string _ | .pointer none | .map none | .nilFunc | .nilIface => true
  | .slice none n c => n == 0 && c == 0
  | _ => false
def constOk : Value → Bool
  | .agg cs => cs.all constCell
  | v => constCell v
/-- What is known of a type whose zero value is plain. -/
def infoOf (P : Program) (t : TypeId) : Option TypeInfo := (P.info? t).filter fun i => match i.zero with
  | some z => constOk z && decide (z.cells.size = i.size)
  | none => true
def zeroOf (P : Program) (t : TypeId) : Option Value := (infoOf P t).bind (·.zero)
def aggOf (P : Program) (t : TypeId) : Option Bool :=
  match P.underlying t with
  | some (.struct _) | some (.array _ _) => some true
  | some _ => some false
  | none => none
def noTuple : Value → Bool
  | .tuple _ => false
  | _ => true

/-! ### Operations -/
def aLoad (P : Program) (σ : AHeap) (t : TypeId) (x : Value) : Option Value :=
  match x with
  | .pointer (some a) =>
    match aggOf P t with
    | some true => (szOf P t).bind fun n => (rd σ a n).map fun cs => .agg cs.toArray
    | some false => (rd σ a 1).bind fun cs => cs.head?
    | none => none
  | _ => none

def aStore (P : Program) (σ : AHeap) (t : TypeId) (x v : Value) : Option AHeap :=
  match x with
  | .pointer (some a) => if noTuple v ∧ szOf P t = some v.cells.size then wr σ a v.cells.toList else none
  | _ => none

def aNew (σ : AHeap) (e : TypeId) (v : Value) : Option (Value × AHeap) :=
  if noTuple v then some (.pointer (some ⟨σ.next, 0, none⟩), σ.push (.cells v.cells.toList e σ.next)) else none

def aPlaces (P : Program) (fs : Array Field) : Option (Array (Nat × Nat)) := fs.mapM fun f => (szOf P f.type).map fun n => (f.offset, n)

def aBuild (P : Program) (t : TypeId) (parts : Array (Nat × Value)) : Option Value :=
  if parts.all (fun p => noTuple p.2) then
    (zeroOf P t).bind fun z =>
      match P.underlying t with
      | some (.struct fs) => (aPlaces P fs).bind fun places => (Instr.fill (places[·]?) z.cells parts.toList).map .agg
      | some (.array _ e) => (szOf P e).bind fun n => (Instr.fill (fun i => some (i * n, n)) z.cells parts.toList).map .agg
      | _ => none
  else none

def aBuildSlice (P : Program) (σ : AHeap) (t : TypeId) (len : Nat) (parts : Array (Nat × Value)) : Option (Value × AHeap) :=
  if parts.all (fun p => noTuple p.2) then
    match P.underlying t with
    | some (.slice e) =>
      (szOf P e).bind fun n => (zeroOf P e).bind fun z =>
        if len * n ≤ 2 ^ 24 then
          (Instr.fill (fun i => some (i * n, n)) ((Array.range (len * n)).map (z.cells[· % z.cells.size]!)) parts.toList).map fun cells =>
            (.slice (some ⟨σ.next, 0, none⟩) len len, σ.push (.cells cells.toList e σ.next))
        else none
    | _ => none
  else none

def aMakeSlice (P : Program) (σ : AHeap) (t : TypeId) (len cap : Value) : Option (Value × AHeap) :=
  match P.underlying t, len, cap with
  | some (.slice e), .int _ l, .int _ c =>
    (infoOf P e).bind fun i => i.zero.bind fun z =>
      if 0 ≤ l ∧ l ≤ c ∧ c ≤ 2 ^ 47 ∧ i.bytes * c ≤ 2 ^ 47 then
        some (.slice (some ⟨σ.next, 0, none⟩) l.toNat c.toNat,
          σ.push (.cells ((Array.range (c.toNat * i.size)).map (z.cells[· % z.cells.size]!)).toList e σ.next))
      else none
  | _, _, _ => none

def aPart (P : Program) (t : TypeId) (cs : Array Value) (off : Nat) : Option Value :=
  match aggOf P t with
  | some true => (szOf P t).map fun n => .agg (cs.extract off (off + n))
  | some false => cs[off]?
  | none => none

def aField (P : Program) (t : TypeId) (x : Value) (i : Nat) : Option Value :=
  match P.underlying t, x with
  | some (.struct fs), .agg cs => (fs[i]?).bind fun f => aPart P f.type cs f.offset
  | _, _ => none

def aFieldAddr (P : Program) (t : TypeId) (x : Value) (i : Nat) : Option Value :=
  match P.underlying t, x with
  | some (.struct fs), .pointer (some a) =>
    (fs[i]?).bind fun f => if a.spot = none ∧ szOf P f.type ≠ none ∧ szOf P f.type ≠ some 0 then some (.pointer (some ⟨a.block, a.off + f.offset, none⟩)) else none
  | _, _ => none

def aIndexAddr (P : Program) (t : TypeId) (x i : Value) : Option Value :=
  match P.underlying t, x, i with
  | some (.slice e), .slice (some a) len _, .int _ i =>
    (szOf P e).bind fun n => if a.spot = none ∧ 0 ≤ i ∧ i < len then some (.pointer (some ⟨a.block, a.off + i.toNat * n, none⟩)) else none
  | some (.array len e), .pointer (some a), .int _ i =>
    (szOf P e).bind fun n => if a.spot = none ∧ 0 ≤ i ∧ i < len then some (.pointer (some ⟨a.block, a.off + i.toNat * n, none⟩)) else none
  | _, _, _ => none

def aIndex (P : Program) (t : TypeId) (x i : Value) : Option Value :=
  match P.underlying t, x, i with
  | some .string, .string s, .int _ i => if h : 0 ≤ i ∧ i.toNat < s.size then some (.int .u8 (s[i.toNat]'h.2).toNat) else none
  | some (.array len e), .agg cs, .int _ i => (szOf P e).bind fun n => if 0 ≤ i ∧ i < len then aPart P e cs (i.toNat * n) else none
  | _, _, _ => none

def aBound (x : Option Value) (dflt : Nat) : Option Nat :=
  match x with
  | none => some dflt
  | some (.int _ i) => if 0 ≤ i then some i.toNat else none
  | _ => none

/-- The elements of a block, as its type tells their size: only where the slice's element type has the same size. -/
def sameSize (P : Program) (σ : AHeap) (b : Nat) (n : Nat) : Bool :=
  b < σ.base || match σ.get b with
    | .cells _ e _ => szOf P e == some n
    | _ => false

def aSlice (P : Program) (σ : AHeap) (t : TypeId) (x : Value) (lo hi mx : Option Value) : Option Value :=
  match P.underlying t, x with
  | some .string, .string s =>
    match mx with
    | some _ => none
    | none => (aBound lo 0).bind fun l => (aBound hi s.size).bind fun h => if l ≤ h ∧ h ≤ s.size then some (.string (s.extract l h)) else none
  | some (.slice e), .slice none _ _ =>
    match mx with
    | some _ => none
    | none => (szOf P e).bind fun _ => (aBound lo 0).bind fun l => (aBound hi 0).bind fun h => if l = 0 ∧ h = 0 then some (.slice none 0 0) else none
  | some (.slice e), .slice (some a) len cap =>
    (szOf P e).bind fun n => (aBound lo 0).bind fun l => (aBound hi len).bind fun h =>
      if l ≤ h ∧ h ≤ len ∧ a.spot = none ∧ sameSize P σ a.block n then
        match mx with
        | none => some (.slice (some ⟨a.block, a.off + l * n, none⟩) (h - l) (if a.block < σ.base then cap - l else if cap = len ∧ h = len then h - l else h - l + 1))
        | some m => (aBound (some m) 0).bind fun m => if m = h ∧ hi.isSome then some (.slice (some ⟨a.block, a.off + l * n, none⟩) (h - l) (h - l)) else none
      else none
  | _, _ => none

/-- '==' of two values of one type. -/
def aEq (P : Program) : Nat → TypeId → Value → Value → Option Bool
  | 0, _, _, _ => none
  | d + 1, t, x, y =>
    match P.underlying t, x, y with
    | some .bool, .bool a, .bool b => some (a == b)
    | some (.int _), .int k a, .int k' b => if k = k' then some (decide (a = b)) else none
    | some .string, .string a, .string b => some (decide (a = b))
    | some (.pointer _), .pointer none, .pointer b => some b.isNone
    | some (.pointer _), .pointer (some _), .pointer none => some false
    | some (.slice _), .slice none _ _, .slice b _ _ => some b.isNone
    | some (.slice _), .slice (some _) _ _, .slice none _ _ => some false
    | some (.map _ _), .map none, .map b => some b.isNone
    | some (.map _ _), .map (some _), .map none => some false
    | some (.func _ _ _), .nilFunc, .nilFunc => some true
    | some (.func _ _ _), .nilFunc, .func _ _ _ => some false
    | some (.func _ _ _), .func _ _ _, .nilFunc => some false
    | some (.struct fs), .agg xs, .agg ys =>
      if P.stoodInHeld t then none else
      fs.toList.foldlM (m := Option) (fun (acc : Bool) f => if !acc || f.name = "_" then some acc else
        (aPart P f.type xs f.offset).bind fun u => (aPart P f.type ys f.offset).bind fun v => aEq P d f.type u v) true
    | some (.array len e), .agg xs, .agg ys =>
      (szOf P e).bind fun n => (List.range len).foldlM (m := Option) (fun (acc : Bool) i => if !acc then some acc else
        (aPart P e xs (i * n)).bind fun u => (aPart P e ys (i * n)).bind fun v => aEq P d e u v) true
    | some (.pointer el), .pointer (some a), .pointer (some b) => (szOf P el).bind fun n => if n ≠ 0 ∧ a.block = b.block then some (decide (a = b)) else none
    | _, _, _ => none

def aInt (op : BinOp) (k : IntKind) (a b : Int) : Option Value :=
  match op with
  | .add => some (.int k (k.wrap (a + b)))
  | .sub => some (.int k (k.wrap (a - b)))
  | .mul => some (.int k (k.wrap (a * b)))
  | .quo => if b = 0 then none else some (.int k (k.wrap (a.tdiv b)))
  | .rem => if b = 0 then none else some (.int k (a.tmod b))
  | .and => some (.int k (k.wrap (BitVec.ofInt k.bits a &&& BitVec.ofInt k.bits b).toNat))
  | .or => some (.int k (k.wrap (BitVec.ofInt k.bits a ||| BitVec.ofInt k.bits b).toNat))
  | .xor => some (.int k (k.wrap (BitVec.ofInt k.bits a ^^^ BitVec.ofInt k.bits b).toNat))
  | .andNot => some (.int k (k.wrap (BitVec.ofInt k.bits a &&& ~~~(BitVec.ofInt k.bits b)).toNat))
  | .eql => some (.bool (decide (a = b)))
  | .neq => some (.bool (decide (a ≠ b)))
  | .lss => some (.bool (decide (a < b)))
  | .leq => some (.bool (decide (a ≤ b)))
  | .gtr => some (.bool (decide (b < a)))
  | .geq => some (.bool (decide (b ≤ a)))
  | _ => none

def aShift (op : BinOp) (k : IntKind) (a b : Int) : Option Value :=
  if b < 0 then none else
  match op with
  | .shl => some (.int k (k.wrap (a * 2 ^ (min b.toNat k.bits))))
  | .shr => some (.int k (a.fdiv (2 ^ (min b.toNat k.bits))))
  | _ => none

def aStr (op : BinOp) (a b : ByteArray) : Option Value :=
  match op with
  | .add => if a.size + b.size ≤ 9223372036854775807 then some (.string (a ++ b)) else none
  | .eql => some (.bool (decide (a = b)))
  | .neq => some (.bool (decide (a ≠ b)))
  | .lss => some (.bool (Op.bytesLess a.toList b.toList))
  | .leq => some (.bool (Op.bytesLess a.toList b.toList || decide (a = b)))
  | .gtr => some (.bool !(Op.bytesLess a.toList b.toList || decide (a = b)))
  | .geq => some (.bool !(Op.bytesLess a.toList b.toList))
  | _ => none

def aBin (P : Program) (op : BinOp) (t : TypeId) (x y : Value) : Option Value :=
  match x, y with
  | .int k a, .int k' b =>
    match op with
    | .shl | .shr => aShift op k a b
    | op => if k = k' then aInt op k a b else none
  | .string a, .string b =>
    match op with
    | .shl | .shr => none
    | op => aStr op a b
  | .nilIface, _ => none
  | .agg a, .agg b =>
    if P.eqGuardType P.depth t then none else
    match op with
    | .eql => (aEq P Op.maxDepth t (.agg a) (.agg b)).map .bool
    | .neq => (aEq P Op.maxDepth t (.agg a) (.agg b)).map fun r => .bool !r
    | _ => none
  | x, y =>
    match op with
    | .eql => (aEq P Op.maxDepth t x y).map .bool
    | .neq => (aEq P Op.maxDepth t x y).map fun r => .bool !r
    | _ => none

def aUn (op : UnOp) (x : Value) : Option Value :=
  match op, x with
  | .neg, .int k n => some (.int k (k.wrap (0 - n)))
  | .not, .bool b => some (.bool !b)
  | _, _ => none

def bytesOfCells : List Value → Option (List UInt8)
  | [] => some []
  | .int .u8 n :: cs => (bytesOfCells cs).map (UInt8.ofNat n.toNat :: ·)
  | _ :: _ => none

def cellsOfBytes (s : ByteArray) : List Value := s.data.toList.map fun b => .int .u8 b.toNat

def aConv (P : Program) (σ : AHeap) (src dst : TypeId) (x : Value) : Option (Value × AHeap) :=
  match P.underlying src, P.underlying dst, x with
  | some _, some (.int k), .int _ n => some (.int k (k.wrap n), σ)
  | some _, some .string, .string s => some (.string s, σ)
  | some (.slice e), some .string, .slice none _ _ => match P.underlying e with | some (.int .u8) => some (.string .empty, σ) | _ => none
  | some (.slice e), some .string, .slice (some a) n _ =>
    match P.underlying e with
    | some (.int .u8) => (rd σ a n).bind fun cs => (bytesOfCells cs).map fun l => (.string ⟨l.toArray⟩, σ)
    | _ => none
  | some .string, some (.slice e), .string s =>
    match P.underlying e with
    | some (.int .u8) => if s.size ≤ 2 ^ 47 ∧ szOf P e = some 1 then some (.slice (some ⟨σ.next, 0, none⟩) s.size (s.size + 1), σ.push (.cells (cellsOfBytes s) e σ.next)) else none
    | _ => none
  | some (.pointer t), some .unsafePointer, .pointer (some a) =>
    match szOf P t with
    | some (_ + 1) => if (rd σ a 1).isSome then some (.pointer (some a), σ) else none
    | _ => none
  | some .unsafePointer, some (.pointer u), .pointer (some a) =>
    if a.block < σ.base then none else
    match σ.get a.block, szOf P u with
    | .cells c e _, some (n + 1) => if e = u ∧ a.off = 0 ∧ a.spot = none ∧ n + 1 ≤ c.length then some (.pointer (some a), σ) else none
    | _, _ => none
  | _, _, _ => none

/-! ### Maps -/
/-- A key that 'checkKey' lets pass, with no address in it. -/
def plainKey (P : Program) : Nat → TypeId → Value → Bool
  | 0, _, _ => false
  | d + 1, t, v =>
    match P.underlying t, v with
    | some .bool, .bool _ | some (.int _), .int _ _ | some .string, .string _ => true
    | some (.struct fs), .agg cs => fs.toList.all fun f => f.name = "_" || match aPart P f.type cs f.offset with
      | some u => plainKey P d f.type u
      | none => false
    | some (.array len e), .agg cs => match szOf P e with
      | some n => (List.range len).all fun i => match aPart P e cs (i * n) with
        | some u => plainKey P d e u
        | none => false
      | none => false
    | _, _ => false

def aFind (P : Program) (kt : TypeId) (k : Value) : List MapEntry → Nat → Option (Option (Nat × Value))
  | [], _ => some none
  | e :: es, i =>
    match aEq P Op.maxDepth kt k e.key with
    | some true => some (some (i, e.val))
    | some false => aFind P kt k es (i + 1)
    | none => none

def scalarKey : Value → Bool
  | .bool _ | .int _ _ | .string _ => true
  | .agg cs => cs.all fun v => match v with | .bool _ | .int _ _ | .string _ => true | _ => false
  | _ => false

def aLookup (P : Program) (σ : AHeap) (t : TypeId) (x k : Value) (ok : Bool) : Option Value :=
  match P.underlying t with
  | some (.map kt e) =>
    if plainKey P 10000 kt k && scalarKey k then
      match x with
      | .map none => (zeroOf P e).map fun z => if ok then .tuple #[z, .bool false] else z
      | .map (some r) =>
        if r < σ.base then none else
        match σ.get r with
        | .map es _ => (aFind P kt k es 0).bind fun
          | some (_, v) => some (if ok then .tuple #[v, .bool true] else v)
          | none => (zeroOf P e).map fun z => if ok then .tuple #[z, .bool false] else z
        | _ => none
      | _ => none
    else none
  | _ => none

def aMapUpdate (P : Program) (σ : AHeap) (t : TypeId) (x k v : Value) : Option AHeap :=
  match P.underlying t, x with
  | some (.map kt _), .map (some r) =>
    if plainKey P 10000 kt k && scalarKey k && noTuple v then
      if r < σ.base then none else
      match σ.get r with
      | .map es clock => (aFind P kt k es 0).bind fun
        | some (i, _) => if ((es[i]?).any fun e => Instr.sameBits 10000 e.key k) then some (σ.put r (.map (es.modify i fun e => { e with key := k, val := v }) clock)) else none
        | none => some (σ.put r (.map (es ++ [{ key := k, val := v, born := clock }]) (clock + 1)))
      | _ => none
    else none
  | _, _ => none

def aMapEntry (P : Program) (σ : AHeap) (t : TypeId) (x k : Value) : Option (Value × AHeap) :=
  match P.underlying t, x with
  | some (.map kt e), .map (some r) =>
    if plainKey P 10000 kt k && scalarKey k then
      if r < σ.base then none else
      match σ.get r with
      | .map es clock => (aFind P kt k es 0).bind fun
        | some (i, v) => if ((es[i]?).any fun e => Instr.sameBits 10000 e.key k) then some (.tuple #[v, goInt (((es[i]?).map (·.born)).getD 0)], σ.put r (.map (es.modify i fun e => { e with key := k }) clock)) else none
        | none => (zeroOf P e).map fun z => (.tuple #[z, goInt clock], σ.put r (.map (es ++ [{ key := k, val := z, born := clock }]) (clock + 1)))
      | _ => none
    else none
  | _, _ => none

def aEntryStore (σ : AHeap) (x stamp v : Value) : Option AHeap :=
  match x, stamp with
  | .map (some r), .int _ born =>
    if noTuple v then
      if r < σ.base then none else
      match σ.get r with
      | .map es clock => (es.findIdx? fun e => (e.born : Int) == born).map fun i => σ.put r (.map (es.modify i fun e => { e with val := v }) clock)
      | _ => none
    else none
  | _, _ => none

/-! ### Builtins -/
/-- The cells of the first n elements, of size sz. -/
def firstOf (σ : AHeap) (sz n : Nat) : Value → Option (List Value)
  | .slice none _ _ => some []
  | .slice (some a) m _ => if n * sz = 0 then some [] else if n ≤ m then rd σ a (n * sz) else none
  | .string s => some (cellsOfBytes (s.extract 0 n))
  | _ => none
def lenOfV : Value → Option Nat
  | .slice _ n _ => some n
  | .string s => some s.size
  | _ => none

def aAppend (P : Program) (σ : AHeap) (st xt : TypeId) (s x : Value) : Option (Value × AHeap) :=
  match P.underlying st, P.underlying xt, s with
  | _, some (.int _), _ => none
  | some (.slice e), some _, .slice base len cap =>
    (infoOf P e).bind fun inf => inf.zero.bind fun z => (lenOfV x).bind fun n => (firstOf σ inf.size n x).bind fun new => (firstOf σ inf.size len s).bind fun old =>
      if n = 0 then some (s, σ)
      else if z.cells.size = inf.size ∧ 0 < inf.size ∧ (len + n) * (inf.bytes + 1) ≤ 2 ^ 46 ∧ len * inf.size = old.length ∧ n * inf.size = new.length then
        let res : Value := .slice (some ⟨σ.next, 0, none⟩) (len + n) (len + n + 1)
        match base with
        | none => some (res, σ.push (.cells (old ++ new) e σ.next))
        | some a =>
          if cap = len then some (res, σ.push (.cells (old ++ new) e σ.next))
          else if a.block < σ.base then none
          else
            match σ.get a.block with
            | .cells _ e' ch =>
              if e' = e then
                if a.off = 0 then some (res, (σ.kill ch σ.next (len * inf.size)).push (.cells (old ++ new) e ch))
                else if a.off % inf.size = 0 then some (res, (σ.kill ch σ.next 0).push (.cells (old ++ new) e σ.next))
                else none
              else none
            | _ => none
      else none
  | _, _, _ => none

def aCopy (P : Program) (σ : AHeap) (dt : TypeId) (d x : Value) : Option (Value × AHeap) :=
  match P.underlying dt, d with
  | some (.slice e), .slice base dlen _ =>
    (szOf P e).bind fun sz => (lenOfV x).bind fun n => (firstOf σ sz (min n dlen) x).bind fun cs =>
      match base with
      | none => some (goInt 0, σ)
      | some a => if cs = [] then some (goInt (min n dlen : Nat), σ) else (wr σ a cs).map fun σ' => (goInt (min n dlen : Nat), σ')
  | _, _ => none

def aLen (P : Program) (σ : AHeap) (t : TypeId) (x : Value) : Option Value :=
  match P.underlying t, x with
  | some .string, .string s => some (goInt s.size)
  | some (.array n _), _ => some (goInt n)
  | some (.slice _), .slice _ n _ => some (goInt n)
  | some (.map _ _), .map none => some (goInt 0)
  | some (.map _ _), .map (some r) =>
    if r < σ.base then none else
    match σ.get r with
    | .map es _ => some (goInt es.length)
    | _ => none
  | _, _ => none

def aDelete (P : Program) (σ : AHeap) (t : TypeId) (x k : Value) : Option (Value × AHeap) :=
  match P.underlying t, x with
  | some (.map kt _), .map (some r) =>
    if plainKey P 10000 kt k && scalarKey k then
      if r < σ.base then none else
      match σ.get r with
      | .map es clock => (aFind P kt k es 0).bind fun
        | some (i, _) => some (.tuple #[], σ.put r (.map (es.eraseIdx i) clock))
        | none => some (.tuple #[], σ)
      | _ => none
    else none
  | _, _ => none

def aMax : Value → Value → Option Value
  | .int k x, .int _ y => some (.int k (if y > x then y else x))
  | _, _ => none
def aMin : Value → Value → Option Value
  | .int k x, .int _ y => some (.int k (if y < x then y else x))
  | _, _ => none

/-- A text that shares the bytes of one's own memory: the memory is given up. -/
def aUnsafeString (P : Program) (σ : AHeap) (pt : TypeId) (p n : Value) : Option (Value × AHeap) :=
  match p, n with
  | .pointer none, .int _ m => if m = 0 then some (.string .empty, σ) else none
  | .pointer (some a), .int _ m =>
    match P.underlying pt with
    | some (.pointer e) =>
      if a.spot = none ∧ ¬ a.block < σ.base ∧ 0 < m ∧ m ≤ 9223372036854775807 ∧ szOf P e = some 1 then
        match σ.get a.block with
        | .cells c el ch => if el = e ∧ a.off + m.toNat ≤ c.length then
            (bytesOfCells ((c.drop a.off).take m.toNat)).map fun l => (.string ⟨l.toArray⟩, (σ.kill ch a.block 0).put a.block .dead)
          else none
        | _ => none
      else none
    | _ => none
  | _, _ => none
def aSliceData (x : Value) : Option Value :=
  match x with
  | .slice none _ _ => some (.pointer none)
  | .slice (some a) n _ => if 0 < n then some (.pointer (some a)) else none
  | _ => none

def aBuiltin (P : Program) (σ : AHeap) (b : Builtin) (ts : Array TypeId) (args : Array Value) : Option (Value × AHeap) :=
  match b with
  | .append => match ts.toList, args.toList with
    | [st, xt], [s, x] => aAppend P σ st xt s x
    | _, _ => none
  | .copy => match ts.toList, args.toList with
    | dt :: _, [d, x] => aCopy P σ dt d x
    | _, _ => none
  | .len => match ts.toList, args.toList with
    | t :: _, x :: _ => (aLen P σ t x).map (·, σ)
    | _, _ => none
  | .delete => match ts.toList, args.toList with
    | t :: _, x :: k :: _ => aDelete P σ t x k
    | _, _ => none
  | .max => match args.toList with
    | x :: rest => (rest.foldlM (m := Option) aMax x).map (·, σ)
    | [] => none
  | .min => match args.toList with
    | x :: rest => (rest.foldlM (m := Option) aMin x).map (·, σ)
    | [] => none
  | .unsafeSliceData => match args.toList with
    | [x] => (aSliceData x).map (·, σ)
    | _ => none
  | .unsafeString => match ts.toList, args.toList with
    | pt :: _, [p, n] => aUnsafeString P σ pt p n
    | _, _ => none
  | _ => none

/-- One operation that calls no Go function: its value (undef where it has none), and the heap behind it. -/
def aop (P : Program) (f : Fr) (σ : AHeap) : Op → Option (Value × AHeap)
  | .move x | .assign x => some (ev f x, σ)
  | .pick c a b => match ev f c with | .bool t => some (if t then ev f a else ev f b, σ) | _ => none
  | .alloc e => (zeroOf P e).bind fun z => aNew σ e z
  | .box e x => match szOf P e with | some _ => aNew σ e (ev f x) | none => none
  | .build t parts => (aBuild P t (parts.map fun p => (p.1, ev f p.2))).map (·, σ)
  | .buildSlice t len parts => aBuildSlice P σ t len (parts.map fun p => (p.1, ev f p.2))
  | .load t a => (aLoad P σ t (ev f a)).map (·, σ)
  | .store t a x => (aStore P σ t (ev f a) (ev f x)).map (undef, ·)
  | .nilCheck x => match ev f x with
    | .pointer (some a) => some (.pointer (some a), σ)
    | .func (.func g) a b => some (.func (.func g) a b, σ)
    | _ => none
  | .binOp op t x y _ => (aBin P op t (ev f x) (ev f y)).map (·, σ)
  | .unOp op _ x => (aUn op (ev f x)).map (·, σ)
  | .convert s d x => aConv P σ s d (ev f x)
  | .makeInterface t x => match P.underlying t with
    | some (.interface _) | none => none
    | some _ => some (.iface t (ev f x), σ)
  | .makeFunc fn a b => some (.func fn (a.map (ev f)) (b.map (ev f)), σ)
  | .makeMap t r => match P.underlying t, r.map (ev f) with
    | some (.map _ _), none | some (.map _ _), some (.int _ _) => some (.map (some σ.next), σ.push (.map [] 0))
    | _, _ => none
  | .makeSlice t l c => aMakeSlice P σ t (ev f l) (ev f c)
  | .slice t x lo hi mx => (aSlice P σ t (ev f x) (lo.map (ev f)) (hi.map (ev f)) (mx.map (ev f))).map (·, σ)
  | .fieldAddr t x i => (aFieldAddr P t (ev f x) i).map (·, σ)
  | .field t x i => (aField P t (ev f x) i).map (·, σ)
  | .indexAddr t x i => (aIndexAddr P t (ev f x) (ev f i)).map (·, σ)
  | .index t x i => (aIndex P t (ev f x) (ev f i)).map (·, σ)
  | .lookup t x k ok => (aLookup P σ t (ev f x) (ev f k) ok).map (·, σ)
  | .mapUpdate t m k x | .insert t m k x => (aMapUpdate P σ t (ev f m) (ev f k) (ev f x)).map (undef, ·)
  | .mapEntry t m k => aMapEntry P σ t (ev f m) (ev f k)
  | .entryStore _ m s x => (aEntryStore σ (ev f m) (ev f s) (ev f x)).map (undef, ·)
  | .extract t i => match ev f t with | .tuple vs => (vs[i]?).map (·, σ) | _ => none
  | .call { callee := .builtin b, args, argTypes } => aBuiltin P σ b argTypes (args.map (ev f))
  | _ => none

/-! ### Regions -/
def yieldF (ops : Array Oper) (f : Fr) (j : Nat) : Option Bool :=
  match (ops[j]?).bind (·.dst) with
  | some t => match f t with
    | .bool b => some b
    | _ => none
  | none => none

abbrev CallR := FuncId → List Value → AHeap → Option (Value × AHeap)

def aCallee (f : Fr) (c : Call) : Option (FuncId × List Value) :=
  match c.callee with
  | .value g => match ev f g with
    | .func (.func h) first cap => some (h, first.toList ++ (c.args.toList.map (ev f)) ++ cap.toList)
    | _ => none
  | _ => none

/-- One operation, wanted or not. -/
def opV (P : Program) (call : CallR) (f : Fr) (σ : AHeap) (o : Oper) : Option (Value × AHeap) :=
  match o.op with
  | .call { callee := .value g, args, argTypes } => (aCallee f { callee := .value g, args, argTypes }).bind fun p => call p.1 p.2 σ
  | op => aop P f σ op

def opsF (P : Program) (call : CallR) (ops : Array Oper) : List Oper → Fr → AHeap → Option (Fr × AHeap)
  | [], f, σ => some (f, σ)
  | o :: rest, f, σ =>
    if Region.wanted o (yieldF ops f) then (opV P call f σ o).bind fun r => opsF P call ops rest (f.put o.dst r.1) r.2
    else opsF P call ops rest (f.put o.dst undef) σ

/-- What an operation is to the order of a region: 'pure' reads no memory, 'read' only reads, 'alloc' only makes new memory, 'act' is anything else. -/
inductive Cls where
  | pure | read | alloc | act
  deriving DecidableEq
def clsOf : Op → Cls
  | .move _ | .assign _ | .pick .. | .build .. | .nilCheck _ | .binOp .. | .unOp .. | .makeInterface .. | .makeFunc .. | .fieldAddr .. | .field .. | .indexAddr .. | .index .. | .extract .. => .pure
  | .load .. | .lookup .. | .slice .. => .read
  | .alloc _ | .box .. | .buildSlice .. | .makeMap .. | .makeSlice .. => .alloc
  | .convert .. => .act
  | .call { callee := .builtin .len, .. } => .read
  | .call { callee := .builtin .max, .. } | .call { callee := .builtin .min, .. } => .pure
  | _ => .act

def befores (ops : Array Oper) : Array Nat := Region.before ops
def orderedIn (ops : Array Oper) (i j : Nat) : Bool := ((befores ops).getD j 0).testBit i
def isActC (o : Oper) : Bool := clsOf o.op == .act
/-- The order in which a region is read: ahead of each act what is ordered ahead of it, and nothing else. -/
def canon (ops : Array Oper) : List Nat :=
  let b := befores ops
  let acts := (List.range ops.size).filter fun i => (ops[i]?).any isActC
  let l := acts.foldl (fun acc k => acc ++ ((List.range ops.size).filter fun i => !acc.contains i && (i == k || (b.getD k 0).testBit i))) []
  l ++ (List.range ops.size).filter fun i => !l.contains i
def canonOps (ops : Array Oper) : List (Oper × Nat) := (canon ops).filterMap fun i => (ops[i]?).map fun o => (o, i)
/-- Two operations, the first read ahead of the second: ordered so, or apart. -/
def pairOk (ops : Array Oper) (u o : Oper × Nat) : Bool :=
  orderedIn ops u.2 o.2 || (!isActC o.1 &&
    (match u.1.dst with | some d => !((o.1.looksAt ops).contains d) && o.1.dst != some d | none => true) &&
    (match o.1.dst with | some d => !((u.1.looksAt ops).contains d) | none => true))
def pairsOk (ops : Array Oper) : List (Oper × Nat) → Bool
  | [] => true
  | u :: l => (l.all fun o => pairOk ops u o && u.2 != o.2 && (u.1.after.all fun e => !Region.binds .any e || e.on != o.2)) && pairsOk ops l
/-- The static look at a region whose order is drawn. -/
def regionOk (ops : Array Oper) : Bool :=
  let l := canonOps ops
  pairsOk ops l && ((List.range ops.size).all fun i => l.any fun o => o.2 == i) &&
    (l.all fun o => o.1.after.all fun e => !Region.binds .any e || decide (e.on < ops.size) && e.on != o.2) && decide (l.length ≤ ops.size)

open Classical in
/-- A region whose order is drawn: read in one order, with what makes the other orders equal to it. -/
noncomputable def drawF (P : Program) (call : CallR) (ops : Array Oper) : List (Oper × Nat) → List (Nat × AHeap) → Fr → AHeap → Option (Fr × AHeap)
  | [], _, f, σ => some (f, σ)
  | (o, i) :: rest, ps, f, σ =>
    if Region.wanted o (yieldF ops f) then
      match clsOf o.op with
      | .pure | .alloc => (opV P call f σ o).bind fun r => drawF P call ops rest ps (f.put o.dst r.1) r.2
      | .read => (opV P call f σ o).bind fun r =>
        if ∀ p ∈ ps, orderedIn ops p.1 i = true ∨ aop P f p.2 o.op = some (r.1, p.2) then drawF P call ops rest ps (f.put o.dst r.1) r.2
        else none
      | .act => (opV P call f σ o).bind fun r => drawF P call ops rest ((i, σ) :: ps) (f.put o.dst r.1) r.2
    else drawF P call ops rest ps (f.put o.dst undef) σ

/-! ### Code and calls -/
inductive AExit where
  | normal
  | exit (id : Nat)
  | ret

abbrev COut := Option (AExit × Fr × AHeap)

def iter (body : Fr → AHeap → COut) : Nat → Fr → AHeap → COut
  | 0, _, _ => none
  | n + 1, f, σ =>
    match body f σ with
    | some (.normal, f', σ') => iter body n f' σ'
    | r => r

def isGlob : Operand → Bool
  | .global _ => true
  | _ => false
/-- No package variable is named in a region. -/
def noGlob (ops : Array Oper) : Bool := ops.all fun o => o.op.operands.all fun x => !isGlob x
noncomputable def codeF (P : Program) (call : CallR) (N : Nat) : Code → Fr → AHeap → COut
  | .skip, f, σ => some (.normal, f, σ)
  | .region _ ops draw, f, σ =>
    if noGlob ops then
      if draw then (if regionOk ops then (drawF P call ops (canonOps ops) [] f σ).map fun r => (.normal, r.1, r.2) else none)
      else (opsF P call ops ops.toList f σ).map fun r => (.normal, r.1, r.2)
    else none
  | .seq a b, f, σ =>
    match codeF P call N a f σ with
    | some (.normal, f', σ') => codeF P call N b f' σ'
    | r => r
  | .cond c a b, f, σ =>
    match ev f c with
    | .bool t => if t then codeF P call N a f σ else codeF P call N b f σ
    | _ => none
  | .block id c, f, σ =>
    match codeF P call N c f σ with
    | some (.exit i, f', σ') => if i = id then some (.normal, f', σ') else some (.exit i, f', σ')
    | r => r
  | .loop c, f, σ => iter (codeF P call N c) N f σ
  | .exit id, f, σ => some (.exit id, f, σ)
  | .scope c, f, σ => codeF P call N c f σ
  | .label _, f, σ => some (.normal, f, σ)
  | .ret, f, σ => some (.ret, f, σ)
  | _, _, _ => none

def resultV (P : Program) (f : Fr) (σ : AHeap) : ResultVar → Option Value
  | .tmp t => some (f t)
  | .cell a t => aLoad P σ t (f a)
def resultsF (P : Program) (fn : Func) (f : Fr) (σ : AHeap) : Option Value :=
  match fn.results.toList with
  | [r] => resultV P f σ r
  | rs => (rs.mapM (m := Option) (resultV P f σ)).map fun vs => .tuple vs.toArray

/-- Functions without a Go body. -/
def externF (fn : Func) (args : List Value) (σ : AHeap) : Option (Value × AHeap) :=
  match args with
  | [.string s, .int .u8 c] => if fn.name = "internal/bytealg.IndexByteString" then some (.int .i64 (firstIdx s c.toNat.toUInt8), σ) else none
  | [.pointer p] => if fn.name = "internal/abi.NoEscape" then some (.pointer p, σ) else none
  | _ => none

/-- No address among the constants; names within the frame. -/
def operandOk : Operand → Bool
  | .const v => constOk v
  | .global _ => false
  | _ => true
def operOk (N : Nat) (o : Oper) : Bool := (match o.dst with | some t => decide (t < N) | none => true) && o.op.operands.all operandOk
def operOkG (N : Nat) (o : Oper) : Bool := (match o.dst with | some t => decide (t < N) | none => true) && o.op.operands.all fun x => isGlob x || operandOk x
theorem operOk_of {N : Nat} {ops : Array Oper} (h : ops.all (operOkG N) = true) (g : noGlob ops = true) : ops.all (operOk N) = true := by
  unfold noGlob at g
  rw [Array.all_eq_true_iff_forall_mem] at *
  intro o ho
  have h1 := h o ho
  have h2 := g o ho
  unfold operOkG at h1
  unfold operOk
  rw [Bool.and_eq_true] at *
  refine ⟨h1.1, ?_⟩
  have h3 := h1.2
  rw [Array.all_eq_true_iff_forall_mem] at *
  intro x hx
  have h4 := h3 x hx
  have h5 := h2 x hx
  cases hg : isGlob x with
  | true => rw [hg] at h5; cases h5
  | false => rw [hg] at h4; simpa using h4
def codeOk (N : Nat) : Code → Bool
  | .region _ ops _ => ops.all (operOkG N)
  | .seq a b => codeOk N a && codeOk N b
  | .cond c a b => operandOk c && codeOk N a && codeOk N b
  | .block _ c | .loop c | .scope c => codeOk N c
  | .skip | .exit _ | .label _ | .ret | .refuse _ => true
  | _ => false
/-- Functions of the library whose outcome is known by the kit's own law. -/
def isKnown (name : String) : Bool := name == "strconv.Itoa"
def itoaS (n : Int) : ByteArray := ⟨(Lib.itoa n).toArray⟩
def knownV (name : String) (args : List Value) : Option Value :=
  match args with
  | [.int .i64 n] => if name = "strconv.Itoa" then some (.string (itoaS n)) else none
  | _ => none
/-- Nothing but new memory, and draws. -/
structure QuietW (w w' : World) : Prop where
  os : w'.os = w.os
  tape : w'.tape = w.tape
  out : w'.output = w.output
  size : w.heap.size ≤ w'.heap.size
  same : ∀ i, i < w.heap.size → w'.heap[i]? = w.heap[i]?
/-- A call whose outcome is known wherever the old memory stands. -/
def PureAt (P : Program) (g : FuncId) (args : List Value) (v : Value) (W : World) : Prop :=
  ∀ w : World, W.heap.size ≤ w.heap.size → (∀ i, i < W.heap.size → w.heap[i]? = W.heap[i]?) → Calls P g args.toArray w fun e w' => e = .returned v ∧ QuietW w w'
def funcOk (fn : Func) : Bool := (fn.name != "runtime.NumGoroutine" && !isKnown fn.name) && match fn.body with
  | some c => codeOk fn.ntmps c
  | none => true

open Classical in
noncomputable def callF (P : Program) : Nat → CallR
  | 0, _, _, _ => none
  | n + 1, g, args, σ =>
    match P.funcs[g]? with
    | none => none
    | some fn =>
      match fn.body with
      | none => externF fn args σ
      | some c =>
        if isKnown fn.name = true then
          match knownV fn.name args with
          | some v => if PureAt P g args v σ.old then some (v, σ) else none
          | none => none
        else if !funcOk fn || decide (fn.ntmps < args.length) then none else
        match codeF P (callF P n) n c (fun t => args.getD t undef) σ with
        | some (.normal, f, σ') | some (.ret, f, σ') => (resultsF P fn f σ').map (·, σ')
        | _ => none

end Go.Am
/- AmB -/
set_option linter.unusedVariables false
set_option linter.unusedSimpArgs false
namespace Go.Am

def _root_.Go.Value.oneC : Value → Bool
  | .agg _ | .tuple _ => false
  | _ => true

/-- Where an abstract block lies: its block, its shift in it, that block's size, and the cells of one element. -/
structure GEnt where
  B : Nat
  s : Nat
  N : Nat
  E : Nat
  al : s % E = 0 := by simp
abbrev Gm := Nat → Option GEnt

def Gm.le (γ γ' : Gm) : Prop := ∀ i e, γ i = some e → γ' i = some e
theorem Gm.le_refl (γ : Gm) : γ.le γ := fun _ _ h => h
theorem Gm.le_trans {a b c : Gm} (h : a.le b) (k : b.le c) : a.le c := fun i e x => k i e (h i e x)

inductive VR (base : Nat) (γ : Gm) : Value → Value → Prop
  | bool (b) : VR base γ (.bool b) (.bool b)
  | int (k n) : VR base γ (.int k n) (.int k n)
  | float (k n) : VR base γ (.float k n) (.float k n)
  | complex (k n m) : VR base γ (.complex k n m) (.complex k n m)
  | string (s) : VR base γ (.string s) (.string s)
  | ptr0 : VR base γ (.pointer none) (.pointer none)
  | ptrOld (a : Addr) (h : a.block < base) (hs : a.spot = none) : VR base γ (.pointer (some a)) (.pointer (some a))
  | ptrNew (b o : Nat) (e : GEnt) (h : base ≤ b) (hg : γ b = some e) : VR base γ (.pointer (some ⟨b, o, none⟩)) (.pointer (some ⟨e.B, o + e.s, none⟩))
  | sl0 : VR base γ (.slice none 0 0) (.slice none 0 0)
  | slOld (a : Addr) (n c : Nat) (h : a.block < base) (hs : a.spot = none) (hn : n ≤ c) : VR base γ (.slice (some a) n c) (.slice (some a) n c)
  | slNew (b o n c c' : Nat) (e : GEnt) (h : base ≤ b) (hg : γ b = some e) (hn : n ≤ c') (hc : c = n → c' = n) (hN : o + e.s + c' * e.E ≤ e.N) :
      VR base γ (.slice (some ⟨b, o, none⟩) n c) (.slice (some ⟨e.B, o + e.s, none⟩) n c')
  | slEmpty (a a' : Addr) (c : Nat) (hs : a.spot = none) (hs' : a'.spot = none) : VR base γ (.slice (some a) 0 c) (.slice (some a') 0 0)
  | map0 : VR base γ (.map none) (.map none)
  | map (b : Nat) (e : GEnt) (h : base ≤ b) (hg : γ b = some e) : VR base γ (.map (some b)) (.map (some e.B))
  | func (fn : Fn) (a a' c c' : Array Value) (ha : a.size = a'.size) (hc : c.size = c'.size)
      (va : ∀ (i : Nat) v v', a[i]? = some v → a'[i]? = some v' → VR base γ v v') (vc : ∀ (i : Nat) v v', c[i]? = some v → c'[i]? = some v' → VR base γ v v') :
      VR base γ (.func fn a c) (.func fn a' c')
  | nilFunc : VR base γ .nilFunc .nilFunc
  | nilIface : VR base γ .nilIface .nilIface
  | iface (t v v') (h : VR base γ v v') : VR base γ (.iface t v) (.iface t v')
  | agg (a a' : Array Value) (ha : a.size = a'.size) (h1 : ∀ (i : Nat) v, a[i]? = some v → v.oneC = true)
      (va : ∀ (i : Nat) v v', a[i]? = some v → a'[i]? = some v' → VR base γ v v') : VR base γ (.agg a) (.agg a')
  | tuple (a a' : Array Value) (ha : a.size = a'.size)
      (va : ∀ (i : Nat) v v', a[i]? = some v → a'[i]? = some v' → VR base γ v v') : VR base γ (.tuple a) (.tuple a')

theorem VR.mono {base : Nat} {γ γ' : Gm} {v v' : Value} (h : VR base γ v v') (hg : γ.le γ') : VR base γ' v v' := by
  induction h with
  | bool b => exact .bool b
  | int k n => exact .int k n
  | float k n => exact .float k n
  | complex k n m => exact .complex k n m
  | string s => exact .string s
  | ptr0 => exact .ptr0
  | ptrOld a h hs => exact .ptrOld a h hs
  | ptrNew b o e h he => exact .ptrNew b o e h (hg _ _ he)
  | sl0 => exact .sl0
  | slOld a n c h hs hn => exact .slOld a n c h hs hn
  | slNew b o n c c' e h he hn hc hN => exact .slNew b o n c c' e h (hg _ _ he) hn hc hN
  | slEmpty a a' c hs hs' => exact .slEmpty a a' c hs hs'
  | map0 => exact .map0
  | map b e h he => exact .map b e h (hg _ _ he)
  | func fn a a' c c' ha hc _ _ ia ic => exact .func fn a a' c c' ha hc ia ic
  | nilFunc => exact .nilFunc
  | nilIface => exact .nilIface
  | iface t v v' _ ih => exact .iface t v v' ih
  | agg a a' ha h1 _ ih => exact .agg a a' ha h1 ih
  | tuple a a' ha _ ih => exact .tuple a a' ha ih

theorem VR.undef {base : Nat} {γ : Gm} : VR base γ undef undef := .tuple _ _ rfl (fun i v v' h => by simp at h)

theorem VR.oneCell {base : Nat} {γ : Gm} {v v' : Value} (h : VR base γ v v') : v'.oneC = v.oneC := by
  cases h <;> rfl
theorem VR.noTuple {base : Nat} {γ : Gm} {v v' : Value} (h : VR base γ v v') : noTuple v' = noTuple v := by
  cases h <;> rfl

/-! ### Rows of values -/
def LR (base : Nat) (γ : Gm) (l l' : List Value) : Prop := l.length = l'.length ∧ ∀ (i : Nat) v v', l[i]? = some v → l'[i]? = some v' → VR base γ v v'

section
variable {base : Nat} {γ γ' : Gm}
theorem LR.mono {l l' : List Value} (h : LR base γ l l') (hg : γ.le γ') : LR base γ' l l' := ⟨h.1, fun i v v' x y => (h.2 i v v' x y).mono hg⟩
theorem LR.nil : LR base γ [] [] := ⟨rfl, fun i v v' h => by simp at h⟩
theorem LR.cons {v v' : Value} {l l' : List Value} (h : VR base γ v v') (hl : LR base γ l l') : LR base γ (v :: l) (v' :: l') := by
  refine ⟨by simp [hl.1], fun i u u' hu hu' => ?_⟩
  cases i with
  | zero => simp at hu hu'; subst hu; subst hu'; exact h
  | succ i => simp at hu hu'; exact hl.2 i u u' hu hu'
theorem LR.uncons {v : Value} {l l' : List Value} (h : LR base γ (v :: l) l') : ∃ v' r', l' = v' :: r' ∧ VR base γ v v' ∧ LR base γ l r' := by
  obtain ⟨h1, h2⟩ := h
  cases l' with
  | nil => simp at h1
  | cons v' r' =>
    refine ⟨v', r', rfl, h2 0 v v' (by simp) (by simp), by simpa using h1, fun i u u' hu hu' => h2 (i + 1) u u' (by simpa using hu) (by simpa using hu')⟩
theorem LR.append {a a' b b' : List Value} (h : LR base γ a a') (k : LR base γ b b') : LR base γ (a ++ b) (a' ++ b') := by
  refine ⟨by simp [h.1, k.1], fun i u u' hu hu' => ?_⟩
  by_cases hi : i < a.length
  · rw [List.getElem?_append_left hi] at hu
    rw [List.getElem?_append_left (by have := h.1; omega)] at hu'
    exact h.2 i u u' hu hu'
  · rw [List.getElem?_append_right (by omega)] at hu
    rw [List.getElem?_append_right (by have := h.1; omega), ← h.1] at hu'
    exact k.2 _ u u' hu hu'
theorem LR.take {a a' : List Value} (n : Nat) (h : LR base γ a a') : LR base γ (a.take n) (a'.take n) := by
  refine ⟨by simp [h.1], fun i u u' hu hu' => ?_⟩
  rw [List.getElem?_take] at hu hu'
  split at hu
  · rename_i hi; simp only [hi, if_true] at hu'; exact h.2 i u u' hu hu'
  · simp at hu
theorem LR.drop {a a' : List Value} (n : Nat) (h : LR base γ a a') : LR base γ (a.drop n) (a'.drop n) := by
  refine ⟨by simp [h.1], fun i u u' hu hu' => ?_⟩
  rw [List.getElem?_drop] at hu hu'
  exact h.2 _ u u' hu hu'
theorem LR.get {a a' : List Value} (h : LR base γ a a') {i : Nat} {v : Value} (hv : a[i]? = some v) : ∃ v', a'[i]? = some v' ∧ VR base γ v v' := by
  have hi : i < a.length := by
    rcases Nat.lt_or_ge i a.length with h | h
    · exact h
    · simp [List.getElem?_eq_none h] at hv
  have hi' : i < a'.length := by have := h.1; omega
  exact ⟨a'[i], List.getElem?_eq_getElem hi', h.2 i v _ hv (List.getElem?_eq_getElem hi')⟩
theorem LR.arr {a a' : Array Value} (hs : a.size = a'.size) (h : ∀ (i : Nat) v v', a[i]? = some v → a'[i]? = some v' → VR base γ v v') : LR base γ a.toList a'.toList :=
  ⟨by simpa using hs, fun i v v' x y => h i v v' (by simpa using x) (by simpa using y)⟩
theorem LR.toArr {l l' : List Value} (h : LR base γ l l') : ∀ (i : Nat) v v', l.toArray[i]? = some v → l'.toArray[i]? = some v' → VR base γ v v' := by
  intro i v v' x y
  exact h.2 i v v' (by simpa using x) (by simpa using y)
theorem LR.map {α : Type} (l : List α) (f f' : α → Value) (h : ∀ x ∈ l, VR base γ (f x) (f' x)) : LR base γ (l.map f) (l.map f') := by
  induction l with
  | nil => exact LR.nil
  | cons x l ih => exact LR.cons (h x (by simp)) (ih fun y hy => h y (by simp [hy]))
theorem VR.aggL {l l' : List Value} (h : LR base γ l l') (h1 : ∀ v ∈ l, v.oneC = true) : VR base γ (.agg l.toArray) (.agg l'.toArray) :=
  .agg _ _ (by simpa using h.1) (fun i v hv => h1 v (List.mem_of_getElem? (by simpa using hv))) h.toArr
theorem VR.aggInv {a : Array Value} {v : Value} (h : VR base γ (.agg a) v) : ∃ a', v = .agg a' ∧ LR base γ a.toList a'.toList ∧ ∀ v ∈ a.toList, v.oneC = true := by
  cases h with
  | agg _ a' ha h1 va =>
    refine ⟨a', rfl, LR.arr ha va, fun v hv => ?_⟩
    obtain ⟨i, hi⟩ := List.getElem?_of_mem hv
    exact h1 i v (by simpa using hi)
theorem VR.cells {v v' : Value} (h : VR base γ v v') (hn : Go.Am.noTuple v = true) : LR base γ v.cells.toList v'.cells.toList ∧ ∀ u ∈ v.cells.toList, u.oneC = true := by
  cases h <;> first
    | (rename_i a a' ha h1 va
       refine ⟨LR.arr ha va, fun v hv => ?_⟩
       replace hv : v ∈ a.toList := hv
       obtain ⟨i, hi⟩ := List.getElem?_of_mem hv
       exact h1 i v (by simpa using hi))
    | (simp [Go.Am.noTuple] at hn; done)
    | (refine ⟨LR.cons ?_ LR.nil, fun u hu => ?_⟩
       · first
           | exact .bool _ | exact .int _ _ | exact .float _ _ | exact .complex _ _ _ | exact .string _ | exact .ptr0 | exact .ptrOld _ ‹_› ‹_› | exact .ptrNew _ _ _ ‹_› ‹_› | exact .sl0
           | exact .slOld _ _ _ ‹_› ‹_› ‹_› | exact .slNew _ _ _ _ _ _ ‹_› ‹_› ‹_› ‹_› ‹_› | exact .slEmpty _ _ _ ‹_› ‹_› | exact .map0 | exact .map _ _ ‹_› ‹_› | exact .nilFunc | exact .nilIface
           | exact .iface _ _ _ ‹_› | exact .func _ _ _ _ _ ‹_› ‹_› ‹_› ‹_›
       · simp [Value.cells] at hu
         subst hu
         rfl)
end

/-! ### Values without addresses -/
theorem constCell_oneCell {v : Value} (h : constCell v = true) : v.oneC = true := by
  cases v <;> simp_all [constCell, Value.oneC]
theorem VR.ofConstCell {base : Nat} {γ : Gm} {v : Value} (h : constCell v = true) : VR base γ v v := by
  cases v with
  | bool b => exact .bool b
  | int k n => exact .int k n
  | float k n => exact .float k n
  | complex k n m => exact .complex k n m
  | string s => exact .string s
  | pointer a => cases a with
    | none => exact .ptr0
    | some a => simp [constCell] at h
  | slice a n c => cases a with
    | none => simp [constCell] at h; obtain ⟨rfl, rfl⟩ := h; exact .sl0
    | some a => simp [constCell] at h
  | map r => cases r with
    | none => exact .map0
    | some r => simp [constCell] at h
  | nilFunc => exact .nilFunc
  | nilIface => exact .nilIface
  | chan r => simp [constCell] at h
  | func fn a c => simp [constCell] at h
  | iface t v => simp [constCell] at h
  | agg cs => simp [constCell] at h
  | tuple vs => simp [constCell] at h
theorem VR.ofConst {base : Nat} {γ : Gm} {v : Value} (h : constOk v = true) : VR base γ v v := by
  cases v with
  | agg cs =>
    simp only [constOk] at h
    have h' : ∀ (i : Nat) v, cs[i]? = some v → constCell v = true := fun i v hv => by
      rw [Array.all_eq_true_iff_forall_mem] at h
      exact h v (Array.mem_of_getElem? hv)
    exact .agg _ _ rfl (fun i v hv => constCell_oneCell (h' i v hv)) (fun i v v' hv hv' => by
      rw [hv] at hv'; injection hv' with e; subst e; exact VR.ofConstCell (h' i v hv))
  | _ => exact VR.ofConstCell h
theorem constOk_noTuple {v : Value} (h : constOk v = true) : noTuple v = true := by
  cases v <;> simp_all [constOk, constCell, noTuple]
theorem constOk_cells {v : Value} (h : constOk v = true) : ∀ u ∈ v.cells.toList, constCell u = true := by
  cases v with
  | agg cs => intro u hu; simp only [constOk, Array.all_eq_true_iff_forall_mem] at h; exact h u (by simpa [Value.cells] using hu)
  | _ => intro u hu; simp [Value.cells] at hu; subst hu; exact h
theorem LR.ofConst {base : Nat} {γ : Gm} {l : List Value} (h : ∀ u ∈ l, constCell u = true) : LR base γ l l :=
  ⟨rfl, fun i v v' hv hv' => by rw [hv] at hv'; injection hv' with e; subst e; exact VR.ofConstCell (h v (List.mem_of_getElem? hv))⟩

/-- A scalar stands for itself. -/
theorem VR.eq_of_const {base : Nat} {γ : Gm} {v v' : Value} (h : VR base γ v v') (hc : constCell v = true) : v' = v := by
  cases h <;> first | rfl | (simp [constCell] at hc; done)

end Go.Am
/- AmC -/
set_option linter.unusedVariables false
set_option linter.unusedSimpArgs false
namespace Go.Am

theorem oneC_eq (v : Value) : v.oneC = v.oneCell' := by cases v <;> rfl

/-- Entries of a map. -/
def ER (base : Nat) (γ : Gm) (l l' : List MapEntry) : Prop :=
  l.length = l'.length ∧ ∀ (i : Nat) e e', l[i]? = some e → l'[i]? = some e' → e'.key = e.key ∧ scalarKey e.key = true ∧ e'.born = e.born ∧ VR base γ e.val e'.val

theorem ER.mono {base : Nat} {γ γ' : Gm} {l l' : List MapEntry} (h : ER base γ l l') (hg : γ.le γ') : ER base γ' l l' :=
  ⟨h.1, fun i e e' x y => let ⟨a, b, c, d⟩ := h.2 i e e' x y; ⟨a, b, c, d.mono hg⟩⟩

structure Rel (P : Program) (σ : AHeap) (γ : Gm) (w : World) : Prop where
  os : w.os = σ.old.os
  tape : w.tape = σ.old.tape
  out : w.output = σ.old.output
  size : σ.base ≤ w.heap.size
  old : ∀ i, i < σ.base → w.heap[i]? = σ.old.heap[i]?
  next : σ.base ≤ σ.next
  fresh : ∀ i, σ.next ≤ i → σ.get i = .dead
  chain : ∀ i c el ch, σ.get i = .cells c el ch → ch ≤ i
  dom : ∀ i e, γ i = some e → σ.base ≤ i ∧ i < σ.next ∧ σ.base ≤ e.B ∧ e.B < w.heap.size
  cells : ∀ i c el ch e, σ.get i = .cells c el ch → γ i = some e → ∃ C fz, w.heap[e.B]? = some (.cells C el fz) ∧ C.size = e.N ∧ szOf P el = some e.E ∧ e.s + c.length ≤ e.N ∧
    (∀ o, o < e.N → ¬ (fz.1 ≤ o ∧ o < fz.2)) ∧ LR σ.base γ c ((C.toList.drop e.s).take c.length) ∧ ∀ v ∈ c, v.oneC = true
  map : ∀ i es k e, σ.get i = .map es k → γ i = some e → ∃ es', w.heap[e.B]? = some (.map es' k) ∧ ER σ.base γ es es'.toList
  sep : ∀ i j e e', γ i = some e → γ j = some e' → e.B = e'.B → i ≠ j → σ.get i ≠ .dead → σ.get j ≠ .dead →
    ∃ c el c' el' ch, σ.get i = .cells c el ch ∧ σ.get j = .cells c' el' ch ∧ e.s = e'.s

/-- What a step leaves alone: old blocks, and blocks that stand for nothing alive. -/
structure Fram (σ : AHeap) (γ : Gm) (w w' : World) : Prop where
  size : w.heap.size ≤ w'.heap.size
  same : ∀ B, B < w.heap.size → (∀ i e, γ i = some e → σ.get i ≠ .dead → e.B ≠ B) → w'.heap[B]? = w.heap[B]?

theorem Fram.refl (σ : AHeap) (γ : Gm) (w : World) : Fram σ γ w w := ⟨Nat.le_refl _, fun _ _ _ => rfl⟩

/-- What an abstract heap may become. -/
structure Grows (σ σ' : AHeap) (γ γ' : Gm) : Prop where
  old : σ'.old = σ.old
  next : σ.next ≤ σ'.next
  le : γ.le γ'
  new : ∀ i e, γ' i = some e → γ i = some e ∨ σ.next ≤ i
  dead : ∀ i, i < σ.next → σ.get i = .dead → σ'.get i = .dead

theorem Grows.refl (σ : AHeap) (γ : Gm) : Grows σ σ γ γ := ⟨rfl, Nat.le_refl _, Gm.le_refl γ, fun _ _ h => .inl h, fun _ _ h => h⟩
theorem Grows.base {σ σ' : AHeap} {γ γ' : Gm} (h : Grows σ σ' γ γ') : σ'.base = σ.base := by unfold AHeap.base; rw [h.old]
theorem Grows.trans {a b c : AHeap} {x y z : Gm} (h : Grows a b x y) (k : Grows b c y z) : Grows a c x z :=
  ⟨k.old.trans h.old, Nat.le_trans h.next k.next, Gm.le_trans h.le k.le, fun i e he => by
    rcases k.new i e he with h1 | h1
    · exact h.new i e h1
    · exact .inr (Nat.le_trans h.next h1), fun i hi hd => k.dead i (Nat.lt_of_lt_of_le hi h.next) (h.dead i hi hd)⟩

/-- New concrete blocks alone are behind new names. -/
def NewB (σ : AHeap) (γ γ' : Gm) (w : World) : Prop := ∀ i e, γ' i = some e → γ i = none → w.heap.size ≤ e.B ∨ ∃ j ej, γ j = some ej ∧ σ.get j ≠ .dead ∧ ej.B = e.B

theorem NewB.refl (σ : AHeap) (γ : Gm) (w : World) : NewB σ γ γ w := fun i e h h' => by simp [h] at h'

theorem Fram.trans {a b : AHeap} {x y : Gm} {w1 w2 w3 : World} (h : Fram a x w1 w2) (k : Fram b y w2 w3) (hn : NewB a x y w1) (hd : ∀ i, i < a.next → a.get i = .dead → b.get i = .dead)
    (hdom : ∀ i e, x i = some e → i < a.next) (hl : ∀ i e, x i = some e → y i = some e) : Fram a x w1 w3 :=
  ⟨Nat.le_trans h.size k.size, fun B hB hne => by
    rw [k.same B (Nat.lt_of_lt_of_le hB h.size) (fun i e he hnd => ?_), h.same B hB hne]
    cases hx : x i with
    | some e' =>
      have := hl i e' hx
      rw [he] at this; injection this with this; subst this
      exact hne i e hx (fun hdd => hnd (hd i (hdom i _ hx) hdd))
    | none =>
      rcases hn i e he hx with h1 | ⟨j, ej, hj, hjd, hje⟩
      · omega
      · rw [← hje]; exact hne j ej hj hjd⟩

section
variable {P : Program} {σ : AHeap} {γ : Gm} {w : World}

theorem Rel.alive_lt (R : Rel P σ γ w) {i : Nat} (h : σ.get i ≠ .dead) : i < σ.next := by
  rcases Nat.lt_or_ge i σ.next with h1 | h1
  · exact h1
  · exact absurd (R.fresh i h1) h

/-- Reading old cells. -/
theorem rdOld_spec {W : World} {a : Addr} : ∀ {n : Nat} {cs : List Value}, rdOld W a n = some cs →
    cs.length = n ∧ (∀ (j : Nat) v, cs[j]? = some v → W.cell? ⟨a.block, a.off + j, none⟩ = some v ∧ oldOk W.heap.size v = true) := by
  intro n
  induction n generalizing a with
  | zero => intro cs h; simp [rdOld] at h; subst h; simp
  | succ n ih =>
    intro cs h
    simp only [rdOld] at h
    split at h
    · rename_i v hv
      split at h
      · rename_i hok
        rw [Option.map_eq_some_iff] at h
        obtain ⟨r, hr, rfl⟩ := h
        obtain ⟨h1, h2⟩ := ih hr
        refine ⟨by simp [h1], fun j u hu => ?_⟩
        cases j with
        | zero => simp at hu; subst hu; exact ⟨hv, hok⟩
        | succ j =>
          simp at hu
          have := h2 j u hu
          rw [show a.off + (j + 1) = a.off + 1 + j by omega]
          exact this
      · simp at h
    · simp at h

theorem oldOk_VR {base : Nat} {γ : Gm} {v : Value} (h : oldOk base v = true) : VR base γ v v ∧ v.oneC = true := by
  cases v with
  | bool b => exact ⟨.bool b, rfl⟩
  | int k n => exact ⟨.int k n, rfl⟩
  | string s => exact ⟨.string s, rfl⟩
  | pointer a => cases a with
    | none => exact ⟨.ptr0, rfl⟩
    | some a => simp [oldOk] at h; exact ⟨.ptrOld a h.1 h.2, rfl⟩
  | slice a n c => cases a with
    | none => simp [oldOk] at h; obtain ⟨rfl, rfl⟩ := h; exact ⟨.sl0, rfl⟩
    | some a => simp [oldOk] at h; exact ⟨.slOld a n c h.1.1 h.1.2 h.2, rfl⟩
  | map r => cases r with
    | none => exact ⟨.map0, rfl⟩
    | some r => simp [oldOk] at h
  | nilFunc => exact ⟨.nilFunc, rfl⟩
  | nilIface => exact ⟨.nilIface, rfl⟩
  | _ => simp [oldOk] at h

theorem addr_add (B o j : Nat) : (⟨B, o, none⟩ : Addr).add j = ⟨B, o + j, none⟩ := by
  unfold Addr.add; split <;> simp_all

theorem cell_old (R : Rel P σ γ w) {a : Addr} (h : a.block < σ.base) : w.cell? a = σ.old.cell? a := by
  unfold World.cell?; rw [R.old _ h]

/-- An address and where it lies. -/
def AR (σ : AHeap) (γ : Gm) (a a' : Addr) : Prop := VR σ.base γ (.pointer (some a)) (.pointer (some a'))

theorem AR.spot {a a' : Addr} (h : AR σ γ a a') : a.spot = none ∧ a'.spot = none := by
  unfold AR at h
  cases h with
  | ptrOld _ h hs => exact ⟨hs, hs⟩
  | ptrNew b o e h he => exact ⟨rfl, rfl⟩

/-- The cells at an address, as the model reads them. -/
theorem rd_sound (R : Rel P σ γ w) {a a' : Addr} (hA : AR σ γ a a') {n : Nat} {cs : List Value} (h : rd σ a n = some cs) :
    cs.length = n ∧ (∀ v ∈ cs, v.oneC = true) ∧ ∃ cs', LR σ.base γ cs cs' ∧ ∀ (j : Nat) v, cs'[j]? = some v → w.cell? (a'.add j) = some v := by
  obtain ⟨hs, hs'⟩ := hA.spot
  unfold rd at h
  rw [if_neg (by simp [hs])] at h
  split at h
  · rename_i hb
    obtain ⟨h1, h2⟩ := rdOld_spec h
    refine ⟨h1, fun v hv => ?_, cs, ⟨rfl, fun i v v' hv hv' => ?_⟩, fun j v hv => ?_⟩
    · obtain ⟨j, hj⟩ := List.getElem?_of_mem hv
      exact (oldOk_VR (base := σ.old.heap.size) (γ := γ) (h2 j v hj).2).2
    · rw [hv] at hv'; injection hv' with e; subst e
      exact (oldOk_VR (h2 i v hv).2).1
    · have haa : a' = a := by
        unfold AR at hA
        cases hA with
        | ptrOld _ h hs => rfl
        | ptrNew b o e hbb he => exact absurd hbb (Nat.not_le_of_lt hb)
      subst haa
      have := (h2 j v hv).1
      have hadd : a'.add j = ⟨a'.block, a'.off + j, none⟩ := by
        have : a' = ⟨a'.block, a'.off, none⟩ := by cases a'; simp_all
        rw [this, addr_add]
      rw [hadd, cell_old R (by exact hb)]
      exact this
  · rename_i hb
    split at h
    · rename_i c el ch hget
      split at h
      · rename_i hlen
        injection h with h
        subst h
        have hlt : σ.base ≤ a.block := Nat.le_of_not_lt hb
        obtain ⟨b, o, e, hge, rfl, rfl⟩ : ∃ b o e, γ b = some e ∧ a = ⟨b, o, none⟩ ∧ a' = ⟨e.B, o + e.s, none⟩ := by
          unfold AR at hA
          cases hA with
          | ptrOld _ h hs => exact absurd h (Nat.not_lt_of_le hlt)
          | ptrNew b o e h he => exact ⟨b, o, e, he, rfl, rfl⟩
        obtain ⟨C, fz, hC, hsz, hE, hfit, hfz, hL, h1⟩ := R.cells _ _ _ _ _ hget hge
        refine ⟨by simp only [List.length_take, List.length_drop]; simp only at hlen; omega, fun v hv => h1 v (List.mem_of_mem_drop (List.mem_of_mem_take hv)), ((C.toList.drop e.s).take c.length |>.drop o).take n, (hL.drop o).take n, fun j v hv => ?_⟩
        rw [addr_add]
        simp only [List.getElem?_take, List.getElem?_drop] at hv
        split at hv
        · split at hv
          · unfold World.cell?
            rw [hC]
            simp only [Option.isSome_none, Bool.false_eq_true, if_false]
            rw [show o + e.s + j = e.s + (o + j) by omega]
            simpa using hv
          · simp at hv
        · simp at hv
      · simp at h
    · simp at h

end
end Go.Am
