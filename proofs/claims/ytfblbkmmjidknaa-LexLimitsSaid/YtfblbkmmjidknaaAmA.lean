/- The abstract machine: a deterministic reading of the translated code. Definitions. -/
import Derived.Orders
import Derived.Scope
import Derived.Below
import Derived.Laws.Externs
set_option linter.unusedVariables false
set_option linter.unusedSimpArgs false
namespace Go.Am

/-! ### Frames -/
abbrev Fr := Nat → Value
def Fr.set (f : Fr) (t : Nat) (v : Value) : Fr := fun i => if i = t then v else f i
def Fr.put (f : Fr) (d : Option Tmp) (v : Value) : Fr :=
  match d with
  | some t => f.set t v
  | none => f
def ev (f : Fr) : Operand → Value
  | .tmp t => f t
  | .const v => v
  | .global g => .pointer (some ⟨g, 0, none⟩)
  | .func g => .func (.func g) #[] #[]

/-! ### Heaps -/
inductive AObj where
  | dead
  | cells (c : List Value) (elem : TypeId) (chain : Nat)
  | map (es : List MapEntry) (clock : Nat)

structure AHeap where
  old : World
  next : Nat
  get : Nat → AObj

def AHeap.base (σ : AHeap) : Nat := σ.old.heap.size
def AHeap.put (σ : AHeap) (j : Nat) (o : AObj) : AHeap := { σ with get := fun i => if i = j then o else σ.get i }
def AHeap.push (σ : AHeap) (o : AObj) : AHeap := { σ with next := σ.next + 1, get := fun i => if i = σ.next then o else σ.get i }
/-- The other blocks of a chain that reach beyond 'lim' are given up. -/
def AHeap.kill (σ : AHeap) (ch keep lim : Nat) : AHeap :=
  { σ with get := fun j =>
      match σ.get j with
      | .cells c e ch' => if ch' = ch ∧ j ≠ keep ∧ (lim < c.length ∨ lim = 0) then .dead else .cells c e ch'
      | o => o }

/-- What of an old cell may be read: no address of a block that is not old. -/
def oldOk (base : Nat) : Value → Bool
  | .bool _ | .int _ _ | .string _ | .pointer none | .nilFunc | .nilIface | .map none => true
  | .pointer (some a) => decide (a.block < base) && a.spot.isNone
  | .slice none n c => decide (n = 0) && decide (c = 0)
  | .slice (some a) n c => decide (a.block < base) && a.spot.isNone && decide (n ≤ c)
  | _ => false

def rdOld (w : World) (a : Addr) : Nat → Option (List Value)
  | 0 => some []
  | n + 1 =>
    match w.cell? ⟨a.block, a.off, none⟩ with
    | some v => if oldOk w.heap.size v then (rdOld w ⟨a.block, a.off + 1, none⟩ n).map (v :: ·) else none
    | none => none

/-- The n cells from an address on. -/
def rd (σ : AHeap) (a : Addr) (n : Nat) : Option (List Value) :=
  if a.spot.isSome then none
  else if a.block < σ.base then rdOld σ.old a n
  else
    match σ.get a.block with
    | .cells c _ _ => if a.off + n ≤ c.length then some ((c.drop a.off).take n) else none
    | _ => none

def splice (c : List Value) (off : Nat) (vs : List Value) : List Value := c.take off ++ vs ++ c.drop (off + vs.length)

def wr (σ : AHeap) (a : Addr) (vs : List Value) : Option AHeap :=
  if a.spot.isSome then none
  else if a.block < σ.base then none
  else
    match σ.get a.block with
    | .cells c e ch => if a.off + vs.length ≤ c.length then some ((σ.kill ch a.block a.off).put a.block (.cells (splice c a.off vs) e ch)) else none
    | _ => none

/-! ### Types -/
def szOf (P : Program) (t : TypeId) : Option Nat := (P.info? t).map (·.size)
def constCell : Value → Bool
  | .bool _ | .int _ _ | .float _ _ | .complex _ _ _ | .string _ | .pointer none | .map none | .nilFunc | .nilIface => true
  | .slice none n c => n == 0 && c == 0
  | _ => false
def constOk : Value → Bool
  | .agg cs => cs.all constCell
  | v => constCell v
/-- What is known of a type whose zero value is plain. -/
def infoOf (P : Program) (t : TypeId) : Option TypeInfo := (P.info? t).filter fun i => match i.zero with
  | some z => constOk z && decide (z.cells.size = i.size)
  | none => true
def zeroOf (P : Program) (t : TypeId) : Option Value := (infoOf P t).bind (·.zero)
def aggOf (P : Program) (t : TypeId) : Option Bool :=
  match P.underlying t with
  | some (.struct _) | some (.array _ _) => some true
  | some _ => some false
  | none => none
def noTuple : Value → Bool
  | .tuple _ => false
  | _ => true

/-! ### Operations -/
def aLoad (P : Program) (σ : AHeap) (t : TypeId) (x : Value) : Option Value :=
  match x with
  | .pointer (some a) =>
    match aggOf P t with
    | some true => (szOf P t).bind fun n => (rd σ a n).map fun cs => .agg cs.toArray
    | some false => (rd σ a 1).bind fun cs => cs.head?
    | none => none
  | _ => none

def aStore (P : Program) (σ : AHeap) (t : TypeId) (x v : Value) : Option AHeap :=
  match x with
  | .pointer (some a) => if noTuple v ∧ szOf P t = some v.cells.size then wr σ a v.cells.toList else none
  | _ => none

def aNew (σ : AHeap) (e : TypeId) (v : Value) : Option (Value × AHeap) :=
  if noTuple v then some (.pointer (some ⟨σ.next, 0, none⟩), σ.push (.cells v.cells.toList e σ.next)) else none

def aPlaces (P : Program) (fs : Array Field) : Option (Array (Nat × Nat)) := fs.mapM fun f => (szOf P f.type).map fun n => (f.offset, n)

def aBuild (P : Program) (t : TypeId) (parts : Array (Nat × Value)) : Option Value :=
  if parts.all (fun p => noTuple p.2) then
    (zeroOf P t).bind fun z =>
      match P.underlying t with
      | some (.struct fs) => (aPlaces P fs).bind fun places => (Instr.fill (places[·]?) z.cells parts.toList).map .agg
      | some (.array _ e) => (szOf P e).bind fun n => (Instr.fill (fun i => some (i * n, n)) z.cells parts.toList).map .agg
      | _ => none
  else none

def aBuildSlice (P : Program) (σ : AHeap) (t : TypeId) (len : Nat) (parts : Array (Nat × Value)) : Option (Value × AHeap) :=
  if parts.all (fun p => noTuple p.2) then
    match P.underlying t with
    | some (.slice e) =>
      (szOf P e).bind fun n => (zeroOf P e).bind fun z =>
        if len * n ≤ 2 ^ 24 then
          (Instr.fill (fun i => some (i * n, n)) ((Array.range (len * n)).map (z.cells[· % z.cells.size]!)) parts.toList).map fun cells =>
            (.slice (some ⟨σ.next, 0, none⟩) len len, σ.push (.cells cells.toList e σ.next))
        else none
    | _ => none
  else none

def aMakeSlice (P : Program) (σ : AHeap) (t : TypeId) (len cap : Value) : Option (Value × AHeap) :=
  match P.underlying t, len, cap with
  | some (.slice e), .int _ l, .int _ c =>
    (infoOf P e).bind fun i => i.zero.bind fun z =>
      if 0 ≤ l ∧ l ≤ c ∧ c ≤ 2 ^ 47 ∧ i.bytes * c ≤ 2 ^ 47 then
        some (.slice (some ⟨σ.next, 0, none⟩) l.toNat c.toNat,
          σ.push (.cells ((Array.range (c.toNat * i.size)).map (z.cells[· % z.cells.size]!)).toList e σ.next))
      else none
  | _, _, _ => none

def aPart (P : Program) (t : TypeId) (cs : Array Value) (off : Nat) : Option Value :=
  match aggOf P t with
  | some true => (szOf P t).map fun n => .agg (cs.extract off (off + n))
  | some false => cs[off]?
  | none => none

def aField (P : Program) (t : TypeId) (x : Value) (i : Nat) : Option Value :=
  match P.underlying t, x with
  | some (.struct fs), .agg cs => (fs[i]?).bind fun f => aPart P f.type cs f.offset
  | _, _ => none

def aFieldAddr (P : Program) (t : TypeId) (x : Value) (i : Nat) : Option Value :=
  match P.underlying t, x with
  | some (.struct fs), .pointer (some a) =>
    (fs[i]?).bind fun f => if a.spot = none ∧ szOf P f.type ≠ none ∧ szOf P f.type ≠ some 0 then some (.pointer (some ⟨a.block, a.off + f.offset, none⟩)) else none
  | _, _ => none

def aIndexAddr (P : Program) (t : TypeId) (x i : Value) : Option Value :=
  match P.underlying t, x, i with
  | some (.slice e), .slice (some a) len _, .int _ i =>
    (szOf P e).bind fun n => if a.spot = none ∧ 0 ≤ i ∧ i < len then some (.pointer (some ⟨a.block, a.off + i.toNat * n, none⟩)) else none
  | some (.array len e), .pointer (some a), .int _ i =>
    (szOf P e).bind fun n => if a.spot = none ∧ 0 ≤ i ∧ i < len then some (.pointer (some ⟨a.block, a.off + i.toNat * n, none⟩)) else none
  | _, _, _ => none

def aIndex (P : Program) (t : TypeId) (x i : Value) : Option Value :=
  match P.underlying t, x, i with
  | some .string, .string s, .int _ i => if h : 0 ≤ i ∧ i.toNat < s.size then some (.int .u8 (s[i.toNat]'h.2).toNat) else none
  | some (.array len e), .agg cs, .int _ i => (szOf P e).bind fun n => if 0 ≤ i ∧ i < len then aPart P e cs (i.toNat * n) else none
  | _, _, _ => none

def aBound (x : Option Value) (dflt : Nat) : Option Nat :=
  match x with
  | none => some dflt
  | some (.int _ i) => if 0 ≤ i then some i.toNat else none
  | _ => none

/-- The elements of a block, as its type tells their size: only where the slice's element type has the same size. -/
def sameSize (P : Program) (σ : AHeap) (b : Nat) (n : Nat) : Bool :=
  b < σ.base || match σ.get b with
    | .cells _ e _ => szOf P e == some n
    | _ => false

def aSlice (P : Program) (σ : AHeap) (t : TypeId) (x : Value) (lo hi mx : Option Value) : Option Value :=
  match P.underlying t, x with
  | some .string, .string s =>
    match mx with
    | some _ => none
    | none => (aBound lo 0).bind fun l => (aBound hi s.size).bind fun h => if l ≤ h ∧ h ≤ s.size then some (.string (s.extract l h)) else none
  | some (.slice e), .slice none _ _ =>
    match mx with
    | some _ => none
    | none => (szOf P e).bind fun _ => (aBound lo 0).bind fun l => (aBound hi 0).bind fun h => if l = 0 ∧ h = 0 then some (.slice none 0 0) else none
  | some (.slice e), .slice (some a) len cap =>
    (szOf P e).bind fun n => (aBound lo 0).bind fun l => (aBound hi len).bind fun h =>
      if l ≤ h ∧ h ≤ len ∧ a.spot = none ∧ sameSize P σ a.block n then
        match mx with
        | none => some (.slice (some ⟨a.block, a.off + l * n, none⟩) (h - l) (if a.block < σ.base then cap - l else if cap = len ∧ h = len then h - l else h - l + 1))
        | some m => (aBound (some m) 0).bind fun m => if m = h ∧ hi.isSome then some (.slice (some ⟨a.block, a.off + l * n, none⟩) (h - l) (h - l)) else none
      else none
  | _, _ => none

/-- '==' of two values of one type. -/
def aEq (P : Program) : Nat → TypeId → Value → Value → Option Bool
  | 0, _, _, _ => none
  | d + 1, t, x, y =>
    match P.underlying t, x, y with
    | some .bool, .bool a, .bool b => some (a == b)
    | some (.int _), .int k a, .int k' b => if k = k' then some (decide (a = b)) else none
    | some .string, .string a, .string b => some (decide (a = b))
    | some (.pointer _), .pointer none, .pointer b => some b.isNone
    | some (.pointer _), .pointer (some _), .pointer none => some false
    | some (.slice _), .slice none _ _, .slice b _ _ => some b.isNone
    | some (.slice _), .slice (some _) _ _, .slice none _ _ => some false
    | some (.map _ _), .map none, .map b => some b.isNone
    | some (.map _ _), .map (some _), .map none => some false
    | some (.func _ _ _), .nilFunc, .nilFunc => some true
    | some (.func _ _ _), .nilFunc, .func _ _ _ => some false
    | some (.func _ _ _), .func _ _ _, .nilFunc => some false
    | some (.struct fs), .agg xs, .agg ys =>
      if P.stoodInHeld t then none else
      fs.toList.foldlM (m := Option) (fun (acc : Bool) f => if !acc || f.name = "_" then some acc else
        (aPart P f.type xs f.offset).bind fun u => (aPart P f.type ys f.offset).bind fun v => aEq P d f.type u v) true
    | some (.array len e), .agg xs, .agg ys =>
      (szOf P e).bind fun n => (List.range len).foldlM (m := Option) (fun (acc : Bool) i => if !acc then some acc else
        (aPart P e xs (i * n)).bind fun u => (aPart P e ys (i * n)).bind fun v => aEq P d e u v) true
    | _, _, _ => none

def aInt (op : BinOp) (k : IntKind) (a b : Int) : Option Value :=
  match op with
  | .add => some (.int k (k.wrap (a + b)))
  | .sub => some (.int k (k.wrap (a - b)))
  | .mul => some (.int k (k.wrap (a * b)))
  | .quo => if b = 0 then none else some (.int k (k.wrap (a.tdiv b)))
  | .rem => if b = 0 then none else some (.int k (a.tmod b))
  | .and => some (.int k (k.wrap (BitVec.ofInt k.bits a &&& BitVec.ofInt k.bits b).toNat))
  | .or => some (.int k (k.wrap (BitVec.ofInt k.bits a ||| BitVec.ofInt k.bits b).toNat))
  | .xor => some (.int k (k.wrap (BitVec.ofInt k.bits a ^^^ BitVec.ofInt k.bits b).toNat))
  | .andNot => some (.int k (k.wrap (BitVec.ofInt k.bits a &&& ~~~(BitVec.ofInt k.bits b)).toNat))
  | .eql => some (.bool (decide (a = b)))
  | .neq => some (.bool (decide (a ≠ b)))
  | .lss => some (.bool (decide (a < b)))
  | .leq => some (.bool (decide (a ≤ b)))
  | .gtr => some (.bool (decide (b < a)))
  | .geq => some (.bool (decide (b ≤ a)))
  | _ => none

def aShift (op : BinOp) (k : IntKind) (a b : Int) : Option Value :=
  if b < 0 then none else
  match op with
  | .shl => some (.int k (k.wrap (a * 2 ^ (min b.toNat k.bits))))
  | .shr => some (.int k (a.fdiv (2 ^ (min b.toNat k.bits))))
  | _ => none

def aStr (op : BinOp) (a b : ByteArray) : Option Value :=
  match op with
  | .add => if a.size + b.size ≤ 9223372036854775807 then some (.string (a ++ b)) else none
  | .eql => some (.bool (decide (a = b)))
  | .neq => some (.bool (decide (a ≠ b)))
  | .lss => some (.bool (Op.bytesLess a.toList b.toList))
  | .leq => some (.bool (Op.bytesLess a.toList b.toList || decide (a = b)))
  | .gtr => some (.bool !(Op.bytesLess a.toList b.toList || decide (a = b)))
  | .geq => some (.bool !(Op.bytesLess a.toList b.toList))
  | _ => none

def aBin (P : Program) (op : BinOp) (t : TypeId) (x y : Value) : Option Value :=
  match x, y with
  | .int k a, .int k' b =>
    match op with
    | .shl | .shr => aShift op k a b
    | op => if k = k' then aInt op k a b else none
  | .string a, .string b =>
    match op with
    | .shl | .shr => none
    | op => aStr op a b
  | .nilIface, _ => none
  | .agg a, .agg b =>
    if P.eqGuardType P.depth t then none else
    match op with
    | .eql => (aEq P Op.maxDepth t (.agg a) (.agg b)).map .bool
    | .neq => (aEq P Op.maxDepth t (.agg a) (.agg b)).map fun r => .bool !r
    | _ => none
  | x, y =>
    match op with
    | .eql => (aEq P Op.maxDepth t x y).map .bool
    | .neq => (aEq P Op.maxDepth t x y).map fun r => .bool !r
    | _ => none

def aUn (op : UnOp) (x : Value) : Option Value :=
  match op, x with
  | .neg, .int k n => some (.int k (k.wrap (0 - n)))
  | .not, .bool b => some (.bool !b)
  | _, _ => none

def bytesOfCells : List Value → Option (List UInt8)
  | [] => some []
  | .int .u8 n :: cs => (bytesOfCells cs).map (UInt8.ofNat n.toNat :: ·)
  | _ :: _ => none

def cellsOfBytes (s : ByteArray) : List Value := s.data.toList.map fun b => .int .u8 b.toNat

def aConv (P : Program) (σ : AHeap) (src dst : TypeId) (x : Value) : Option (Value × AHeap) :=
  match P.underlying src, P.underlying dst, x with
  | some _, some (.int k), .int _ n => some (.int k (k.wrap n), σ)
  | some _, some .string, .string s => some (.string s, σ)
  | some (.slice e), some .string, .slice none _ _ => match P.underlying e with | some (.int .u8) => some (.string .empty, σ) | _ => none
  | some (.slice e), some .string, .slice (some a) n _ =>
    match P.underlying e with
    | some (.int .u8) => (rd σ a n).bind fun cs => (bytesOfCells cs).map fun l => (.string ⟨l.toArray⟩, σ)
    | _ => none
  | some .string, some (.slice e), .string s =>
    match P.underlying e with
    | some (.int .u8) => if s.size ≤ 2 ^ 47 ∧ szOf P e = some 1 then some (.slice (some ⟨σ.next, 0, none⟩) s.size (s.size + 1), σ.push (.cells (cellsOfBytes s) e σ.next)) else none
    | _ => none
  | _, _, _ => none

/-! ### Maps -/
/-- A key that 'checkKey' lets pass, with no address in it. -/
def plainKey (P : Program) : Nat → TypeId → Value → Bool
  | 0, _, _ => false
  | d + 1, t, v =>
    match P.underlying t, v with
    | some .bool, .bool _ | some (.int _), .int _ _ | some .string, .string _ => true
    | some (.struct fs), .agg cs => fs.toList.all fun f => f.name = "_" || match aPart P f.type cs f.offset with
      | some u => plainKey P d f.type u
      | none => false
    | some (.array len e), .agg cs => match szOf P e with
      | some n => (List.range len).all fun i => match aPart P e cs (i * n) with
        | some u => plainKey P d e u
        | none => false
      | none => false
    | _, _ => false

def aFind (P : Program) (kt : TypeId) (k : Value) : List MapEntry → Nat → Option (Option (Nat × Value))
  | [], _ => some none
  | e :: es, i =>
    match aEq P Op.maxDepth kt k e.key with
    | some true => some (some (i, e.val))
    | some false => aFind P kt k es (i + 1)
    | none => none

def scalarKey : Value → Bool
  | .bool _ | .int _ _ | .string _ => true
  | .agg cs => cs.all fun v => match v with | .bool _ | .int _ _ | .string _ => true | _ => false
  | _ => false

def aLookup (P : Program) (σ : AHeap) (t : TypeId) (x k : Value) (ok : Bool) : Option Value :=
  match P.underlying t with
  | some (.map kt e) =>
    if plainKey P 10000 kt k && scalarKey k then
      match x with
      | .map none => (zeroOf P e).map fun z => if ok then .tuple #[z, .bool false] else z
      | .map (some r) =>
        if r < σ.base then none else
        match σ.get r with
        | .map es _ => (aFind P kt k es 0).bind fun
          | some (_, v) => some (if ok then .tuple #[v, .bool true] else v)
          | none => (zeroOf P e).map fun z => if ok then .tuple #[z, .bool false] else z
        | _ => none
      | _ => none
    else none
  | _ => none

def aMapUpdate (P : Program) (σ : AHeap) (t : TypeId) (x k v : Value) : Option AHeap :=
  match P.underlying t, x with
  | some (.map kt _), .map (some r) =>
    if plainKey P 10000 kt k && scalarKey k && noTuple v then
      if r < σ.base then none else
      match σ.get r with
      | .map es clock => (aFind P kt k es 0).bind fun
        | some (i, _) => if ((es[i]?).any fun e => Instr.sameBits 10000 e.key k) then some (σ.put r (.map (es.modify i fun e => { e with key := k, val := v }) clock)) else none
        | none => some (σ.put r (.map (es ++ [{ key := k, val := v, born := clock }]) (clock + 1)))
      | _ => none
    else none
  | _, _ => none

def aMapEntry (P : Program) (σ : AHeap) (t : TypeId) (x k : Value) : Option (Value × AHeap) :=
  match P.underlying t, x with
  | some (.map kt e), .map (some r) =>
    if plainKey P 10000 kt k && scalarKey k then
      if r < σ.base then none else
      match σ.get r with
      | .map es clock => (aFind P kt k es 0).bind fun
        | some (i, v) => if ((es[i]?).any fun e => Instr.sameBits 10000 e.key k) then some (.tuple #[v, goInt (((es[i]?).map (·.born)).getD 0)], σ.put r (.map (es.modify i fun e => { e with key := k }) clock)) else none
        | none => (zeroOf P e).map fun z => (.tuple #[z, goInt clock], σ.put r (.map (es ++ [{ key := k, val := z, born := clock }]) (clock + 1)))
      | _ => none
    else none
  | _, _ => none

def aEntryStore (σ : AHeap) (x stamp v : Value) : Option AHeap :=
  match x, stamp with
  | .map (some r), .int _ born =>
    if noTuple v then
      if r < σ.base then none else
      match σ.get r with
      | .map es clock => (es.findIdx? fun e => (e.born : Int) == born).map fun i => σ.put r (.map (es.modify i fun e => { e with val := v }) clock)
      | _ => none
    else none
  | _, _ => none

/-! ### Builtins -/
/-- The cells of the first n elements, of size sz. -/
def firstOf (σ : AHeap) (sz n : Nat) : Value → Option (List Value)
  | .slice none _ _ => some []
  | .slice (some a) m _ => if n * sz = 0 then some [] else if n ≤ m then rd σ a (n * sz) else none
  | .string s => some (cellsOfBytes (s.extract 0 n))
  | _ => none
def lenOfV : Value → Option Nat
  | .slice _ n _ => some n
  | .string s => some s.size
  | _ => none

def aAppend (P : Program) (σ : AHeap) (st xt : TypeId) (s x : Value) : Option (Value × AHeap) :=
  match P.underlying st, P.underlying xt, s with
  | _, some (.int _), _ => none
  | some (.slice e), some _, .slice base len cap =>
    (infoOf P e).bind fun inf => inf.zero.bind fun z => (lenOfV x).bind fun n => (firstOf σ inf.size n x).bind fun new => (firstOf σ inf.size len s).bind fun old =>
      if n = 0 then some (s, σ)
      else if z.cells.size = inf.size ∧ 0 < inf.size ∧ (len + n) * (inf.bytes + 1) ≤ 2 ^ 46 ∧ len * inf.size = old.length ∧ n * inf.size = new.length then
        let res : Value := .slice (some ⟨σ.next, 0, none⟩) (len + n) (len + n + 1)
        match base with
        | none => some (res, σ.push (.cells (old ++ new) e σ.next))
        | some a =>
          if cap = len then some (res, σ.push (.cells (old ++ new) e σ.next))
          else if a.block < σ.base then none
          else
            match σ.get a.block with
            | .cells _ e' ch =>
              if e' = e then
                if a.off = 0 then some (res, (σ.kill ch σ.next (len * inf.size)).push (.cells (old ++ new) e ch))
                else some (res, (σ.kill ch σ.next 0).push (.cells (old ++ new) e σ.next))
              else none
            | _ => none
      else none
  | _, _, _ => none

def aCopy (P : Program) (σ : AHeap) (dt : TypeId) (d x : Value) : Option (Value × AHeap) :=
  match P.underlying dt, d with
  | some (.slice e), .slice base dlen _ =>
    (szOf P e).bind fun sz => (lenOfV x).bind fun n => (firstOf σ sz (min n dlen) x).bind fun cs =>
      match base with
      | none => some (goInt 0, σ)
      | some a => if cs = [] then some (goInt (min n dlen : Nat), σ) else (wr σ a cs).map fun σ' => (goInt (min n dlen : Nat), σ')
  | _, _ => none

def aLen (P : Program) (σ : AHeap) (t : TypeId) (x : Value) : Option Value :=
  match P.underlying t, x with
  | some .string, .string s => some (goInt s.size)
  | some (.array n _), _ => some (goInt n)
  | some (.slice _), .slice _ n _ => some (goInt n)
  | some (.map _ _), .map none => some (goInt 0)
  | some (.map _ _), .map (some r) =>
    if r < σ.base then none else
    match σ.get r with
    | .map es _ => some (goInt es.length)
    | _ => none
  | _, _ => none

def aDelete (P : Program) (σ : AHeap) (t : TypeId) (x k : Value) : Option (Value × AHeap) :=
  match P.underlying t, x with
  | some (.map kt _), .map (some r) =>
    if plainKey P 10000 kt k && scalarKey k then
      if r < σ.base then none else
      match σ.get r with
      | .map es clock => (aFind P kt k es 0).bind fun
        | some (i, _) => some (.tuple #[], σ.put r (.map (es.eraseIdx i) clock))
        | none => some (.tuple #[], σ)
      | _ => none
    else none
  | _, _ => none

def aMax : Value → Value → Option Value
  | .int k x, .int _ y => some (.int k (if y > x then y else x))
  | _, _ => none
def aMin : Value → Value → Option Value
  | .int k x, .int _ y => some (.int k (if y < x then y else x))
  | _, _ => none

def aBuiltin (P : Program) (σ : AHeap) (b : Builtin) (ts : Array TypeId) (args : Array Value) : Option (Value × AHeap) :=
  match b with
  | .append => match ts.toList, args.toList with
    | [st, xt], [s, x] => aAppend P σ st xt s x
    | _, _ => none
  | .copy => match ts.toList, args.toList with
    | dt :: _, [d, x] => aCopy P σ dt d x
    | _, _ => none
  | .len => match ts.toList, args.toList with
    | t :: _, x :: _ => (aLen P σ t x).map (·, σ)
    | _, _ => none
  | .delete => match ts.toList, args.toList with
    | t :: _, x :: k :: _ => aDelete P σ t x k
    | _, _ => none
  | .max => match args.toList with
    | x :: rest => (rest.foldlM (m := Option) aMax x).map (·, σ)
    | [] => none
  | .min => match args.toList with
    | x :: rest => (rest.foldlM (m := Option) aMin x).map (·, σ)
    | [] => none
  | _ => none

/-- One operation that calls no Go function: its value (undef where it has none), and the heap behind it. -/
def aop (P : Program) (f : Fr) (σ : AHeap) : Op → Option (Value × AHeap)
  | .move x | .assign x => some (ev f x, σ)
  | .pick c a b => match ev f c with | .bool t => some (if t then ev f a else ev f b, σ) | _ => none
  | .alloc e => (zeroOf P e).bind fun z => aNew σ e z
  | .box e x => match szOf P e with | some _ => aNew σ e (ev f x) | none => none
  | .build t parts => (aBuild P t (parts.map fun p => (p.1, ev f p.2))).map (·, σ)
  | .buildSlice t len parts => aBuildSlice P σ t len (parts.map fun p => (p.1, ev f p.2))
  | .load t a => (aLoad P σ t (ev f a)).map (·, σ)
  | .store t a x => (aStore P σ t (ev f a) (ev f x)).map (undef, ·)
  | .nilCheck x => match ev f x with
    | .pointer (some a) => some (.pointer (some a), σ)
    | .func (.func g) a b => some (.func (.func g) a b, σ)
    | _ => none
  | .binOp op t x y _ => (aBin P op t (ev f x) (ev f y)).map (·, σ)
  | .unOp op _ x => (aUn op (ev f x)).map (·, σ)
  | .convert s d x => aConv P σ s d (ev f x)
  | .makeInterface t x => match P.underlying t with
    | some (.interface _) | none => none
    | some _ => some (.iface t (ev f x), σ)
  | .makeFunc fn a b => some (.func fn (a.map (ev f)) (b.map (ev f)), σ)
  | .makeMap t r => match P.underlying t, r.map (ev f) with
    | some (.map _ _), none | some (.map _ _), some (.int _ _) => some (.map (some σ.next), σ.push (.map [] 0))
    | _, _ => none
  | .makeSlice t l c => aMakeSlice P σ t (ev f l) (ev f c)
  | .slice t x lo hi mx => (aSlice P σ t (ev f x) (lo.map (ev f)) (hi.map (ev f)) (mx.map (ev f))).map (·, σ)
  | .fieldAddr t x i => (aFieldAddr P t (ev f x) i).map (·, σ)
  | .field t x i => (aField P t (ev f x) i).map (·, σ)
  | .indexAddr t x i => (aIndexAddr P t (ev f x) (ev f i)).map (·, σ)
  | .index t x i => (aIndex P t (ev f x) (ev f i)).map (·, σ)
  | .lookup t x k ok => (aLookup P σ t (ev f x) (ev f k) ok).map (·, σ)
  | .mapUpdate t m k x | .insert t m k x => (aMapUpdate P σ t (ev f m) (ev f k) (ev f x)).map (undef, ·)
  | .mapEntry t m k => aMapEntry P σ t (ev f m) (ev f k)
  | .entryStore _ m s x => (aEntryStore σ (ev f m) (ev f s) (ev f x)).map (undef, ·)
  | .extract t i => match ev f t with | .tuple vs => (vs[i]?).map (·, σ) | _ => none
  | .call { callee := .builtin b, args, argTypes } => aBuiltin P σ b argTypes (args.map (ev f))
  | _ => none

/-! ### Regions -/
def yieldF (ops : Array Oper) (f : Fr) (j : Nat) : Option Bool :=
  match (ops[j]?).bind (·.dst) with
  | some t => match f t with
    | .bool b => some b
    | _ => none
  | none => none

abbrev CallR := FuncId → List Value → AHeap → Option (Value × AHeap)

def aCallee (f : Fr) (c : Call) : Option (FuncId × List Value) :=
  match c.callee with
  | .value g => match ev f g with
    | .func (.func h) first cap => some (h, first.toList ++ (c.args.toList.map (ev f)) ++ cap.toList)
    | _ => none
  | _ => none

/-- One operation, wanted or not. -/
def opV (P : Program) (call : CallR) (f : Fr) (σ : AHeap) (o : Oper) : Option (Value × AHeap) :=
  match o.op with
  | .call { callee := .value g, args, argTypes } => (aCallee f { callee := .value g, args, argTypes }).bind fun p => call p.1 p.2 σ
  | op => aop P f σ op

def opsF (P : Program) (call : CallR) (ops : Array Oper) : List Oper → Fr → AHeap → Option (Fr × AHeap)
  | [], f, σ => some (f, σ)
  | o :: rest, f, σ =>
    if Region.wanted o (yieldF ops f) then (opV P call f σ o).bind fun r => opsF P call ops rest (f.put o.dst r.1) r.2
    else opsF P call ops rest (f.put o.dst undef) σ

/-- What an operation is to the order of a region: 'pure' reads no memory, 'read' only reads, 'alloc' only makes new memory, 'act' is anything else. -/
inductive Cls where
  | pure | read | alloc | act
  deriving DecidableEq
def clsOf : Op → Cls
  | .move _ | .assign _ | .pick .. | .build .. | .nilCheck _ | .binOp .. | .unOp .. | .makeInterface .. | .makeFunc .. | .fieldAddr .. | .field .. | .indexAddr .. | .index .. | .extract .. => .pure
  | .load .. | .lookup .. | .slice .. => .read
  | .alloc _ | .box .. | .buildSlice .. | .makeMap .. | .makeSlice .. => .alloc
  | .convert .. => .act
  | .call { callee := .builtin .len, .. } => .read
  | .call { callee := .builtin .max, .. } | .call { callee := .builtin .min, .. } => .pure
  | _ => .act

def befores (ops : Array Oper) : Array Nat := Region.before ops
def orderedIn (ops : Array Oper) (i j : Nat) : Bool := ((befores ops).getD j 0).testBit i
def isActC (o : Oper) : Bool := clsOf o.op == .act
/-- The order in which a region is read: ahead of each act what is ordered ahead of it, and nothing else. -/
def canon (ops : Array Oper) : List Nat :=
  let b := befores ops
  let acts := (List.range ops.size).filter fun i => (ops[i]?).any isActC
  let l := acts.foldl (fun acc k => acc ++ ((List.range ops.size).filter fun i => !acc.contains i && (i == k || (b.getD k 0).testBit i))) []
  l ++ (List.range ops.size).filter fun i => !l.contains i
def canonOps (ops : Array Oper) : List (Oper × Nat) := (canon ops).filterMap fun i => (ops[i]?).map fun o => (o, i)
/-- Two operations, the first read ahead of the second: ordered so, or apart. -/
def pairOk (ops : Array Oper) (u o : Oper × Nat) : Bool :=
  orderedIn ops u.2 o.2 || (!isActC o.1 &&
    (match u.1.dst with | some d => !((o.1.looksAt ops).contains d) && o.1.dst != some d | none => true) &&
    (match o.1.dst with | some d => !((u.1.looksAt ops).contains d) | none => true))
def pairsOk (ops : Array Oper) : List (Oper × Nat) → Bool
  | [] => true
  | u :: l => (l.all fun o => pairOk ops u o && u.2 != o.2 && (u.1.after.all fun e => !Region.binds .any e || e.on != o.2)) && pairsOk ops l
/-- The static look at a region whose order is drawn. -/
def regionOk (ops : Array Oper) : Bool :=
  let l := canonOps ops
  pairsOk ops l && ((List.range ops.size).all fun i => l.any fun o => o.2 == i) &&
    (l.all fun o => o.1.after.all fun e => !Region.binds .any e || decide (e.on < ops.size) && e.on != o.2) && decide (l.length ≤ ops.size)

open Classical in
/-- A region whose order is drawn: read in one order, with what makes the other orders equal to it. -/
noncomputable def drawF (P : Program) (call : CallR) (ops : Array Oper) : List (Oper × Nat) → List (Nat × AHeap) → Fr → AHeap → Option (Fr × AHeap)
  | [], _, f, σ => some (f, σ)
  | (o, i) :: rest, ps, f, σ =>
    if Region.wanted o (yieldF ops f) then
      match clsOf o.op with
      | .pure | .alloc => (opV P call f σ o).bind fun r => drawF P call ops rest ps (f.put o.dst r.1) r.2
      | .read => (opV P call f σ o).bind fun r =>
        if ∀ p ∈ ps, orderedIn ops p.1 i = true ∨ aop P f p.2 o.op = some (r.1, p.2) then drawF P call ops rest ps (f.put o.dst r.1) r.2
        else none
      | .act => (opV P call f σ o).bind fun r => drawF P call ops rest ((i, σ) :: ps) (f.put o.dst r.1) r.2
    else drawF P call ops rest ps (f.put o.dst undef) σ

/-! ### Code and calls -/
inductive AExit where
  | normal
  | exit (id : Nat)
  | ret

abbrev COut := Option (AExit × Fr × AHeap)

def iter (body : Fr → AHeap → COut) : Nat → Fr → AHeap → COut
  | 0, _, _ => none
  | n + 1, f, σ =>
    match body f σ with
    | some (.normal, f', σ') => iter body n f' σ'
    | r => r

noncomputable def codeF (P : Program) (call : CallR) (N : Nat) : Code → Fr → AHeap → COut
  | .skip, f, σ => some (.normal, f, σ)
  | .region _ ops draw, f, σ =>
    if draw then (if regionOk ops then (drawF P call ops (canonOps ops) [] f σ).map fun r => (.normal, r.1, r.2) else none)
    else (opsF P call ops ops.toList f σ).map fun r => (.normal, r.1, r.2)
  | .seq a b, f, σ =>
    match codeF P call N a f σ with
    | some (.normal, f', σ') => codeF P call N b f' σ'
    | r => r
  | .cond c a b, f, σ =>
    match ev f c with
    | .bool t => if t then codeF P call N a f σ else codeF P call N b f σ
    | _ => none
  | .block id c, f, σ =>
    match codeF P call N c f σ with
    | some (.exit i, f', σ') => if i = id then some (.normal, f', σ') else some (.exit i, f', σ')
    | r => r
  | .loop c, f, σ => iter (codeF P call N c) N f σ
  | .exit id, f, σ => some (.exit id, f, σ)
  | .scope c, f, σ => codeF P call N c f σ
  | .label _, f, σ => some (.normal, f, σ)
  | .ret, f, σ => some (.ret, f, σ)
  | _, _, _ => none

def resultV (P : Program) (f : Fr) (σ : AHeap) : ResultVar → Option Value
  | .tmp t => some (f t)
  | .cell a t => aLoad P σ t (f a)
def resultsF (P : Program) (fn : Func) (f : Fr) (σ : AHeap) : Option Value :=
  match fn.results.toList with
  | [r] => resultV P f σ r
  | rs => (rs.mapM (m := Option) (resultV P f σ)).map fun vs => .tuple vs.toArray

/-- Functions without a Go body. -/
def externF (fn : Func) (args : List Value) (σ : AHeap) : Option (Value × AHeap) :=
  match args with
  | [.string s, .int .u8 c] => if fn.name = "internal/bytealg.IndexByteString" then some (.int .i64 (firstIdx s c.toNat.toUInt8), σ) else none
  | _ => none

/-- No address among the constants; names within the frame. -/
def operandOk : Operand → Bool
  | .const v => constOk v
  | .global _ => false
  | _ => true
def operOk (N : Nat) (o : Oper) : Bool := (match o.dst with | some t => decide (t < N) | none => true) && o.op.operands.all operandOk
def codeOk (N : Nat) : Code → Bool
  | .region _ ops _ => ops.all (operOk N)
  | .seq a b => codeOk N a && codeOk N b
  | .cond c a b => operandOk c && codeOk N a && codeOk N b
  | .block _ c | .loop c | .scope c => codeOk N c
  | .skip | .exit _ | .label _ | .ret => true
  | _ => false
def funcOk (fn : Func) : Bool := fn.name != "runtime.NumGoroutine" && match fn.body with
  | some c => codeOk fn.ntmps c
  | none => true

noncomputable def callF (P : Program) : Nat → CallR
  | 0, _, _, _ => none
  | n + 1, g, args, σ =>
    match P.funcs[g]? with
    | none => none
    | some fn =>
      match fn.body with
      | none => externF fn args σ
      | some c =>
        if !funcOk fn || decide (fn.ntmps < args.length) then none else
        match codeF P (callF P n) n c (fun t => args.getD t undef) σ with
        | some (.normal, f, σ') | some (.ret, f, σ') => (resultsF P fn f σ').map (·, σ')
        | _ => none

end Go.Am
