/- The engine, part D: operations that leave memory alone: what they come to. -/
import Derived.Test.YtolplbfonlhbhaaEngC
set_option linter.unusedVariables false
set_option linter.unusedSectionVars false
set_option linter.unusedSimpArgs false
namespace Go.Eng
open Go
variable [Globs]

/-- a value that a guard may not have let be made is used where the guard holds -/
def AV.use : AV → Prop × AV
  | .gd b x => (b = true, x)
  | x => (True, x)
def St.us (s : St) (x : Operand) : Prop × AV := (s.ev x).use

def pickV (b : Bool) (x y : AV) : AV :=
  match x, y with
  | .d (.raw (.bool p)), .d (.raw (.bool q)) => .d (.raw (.bool (bif b then p else q)))
  | x, y => bif b then x else y

def byteAt (s : ByteArray) (i : Int) : Int := ((s.data.toList.getD i.toNat 0).toNat : Int)

def intBin (op : BinOp) (k : IntKind) (a b : Int) : Option (Prop × Value) :=
  match op with
  | .add => some (True, .int k (k.wrap (a + b)))
  | .sub => some (True, .int k (k.wrap (a - b)))
  | .mul => some (True, .int k (k.wrap (a * b)))
  | .quo => some (b ≠ 0, .int k (k.wrap (a.tdiv b)))
  | .rem => some (b ≠ 0, .int k (a.tmod b))
  | .and => some (True, .int k (k.wrap (BitVec.ofInt k.bits a &&& BitVec.ofInt k.bits b).toNat))
  | .or => some (True, .int k (k.wrap (BitVec.ofInt k.bits a ||| BitVec.ofInt k.bits b).toNat))
  | .xor => some (True, .int k (k.wrap (BitVec.ofInt k.bits a ^^^ BitVec.ofInt k.bits b).toNat))
  | .andNot => some (True, .int k (k.wrap (BitVec.ofInt k.bits a &&& ~~~(BitVec.ofInt k.bits b)).toNat))
  | .eql => some (True, .bool (a == b))
  | .neq => some (True, .bool (a != b))
  | .lss => some (True, .bool (decide (a < b)))
  | .leq => some (True, .bool (decide (a ≤ b)))
  | .gtr => some (True, .bool (decide (a > b)))
  | .geq => some (True, .bool (decide (a ≥ b)))
  | _ => none
def shiftBin (op : BinOp) (k : IntKind) (a b : Int) : Option (Prop × Value) :=
  match op with
  | .shl => some (0 ≤ b, .int k (k.wrap (a * 2 ^ (min b.toNat k.bits))))
  | .shr => some (0 ≤ b, .int k (a.fdiv (2 ^ (min b.toNat k.bits))))
  | _ => none
def strEq (x y : ByteArray) : Bool := x.toList == y.toList
def strLt (x y : ByteArray) : Bool := Op.bytesLess x.toList y.toList
def strBin (op : BinOp) (x y : ByteArray) : Option (Prop × Value) :=
  match op with
  | .add => some (x.size + y.size ≤ 9223372036854775807, .string (x ++ y))
  | .eql => some (True, .bool (strEq x y))
  | .neq => some (True, .bool (!strEq x y))
  | .lss => some (True, .bool (strLt x y))
  | .leq => some (True, .bool (strLt x y || strEq x y))
  | .gtr => some (True, .bool (!(strLt x y || strEq x y)))
  | .geq => some (True, .bool (!strLt x y))
  | _ => none

def withC (c : Prop) (r : Option (Prop × Value)) : Option (Prop × AV) :=
  match r with
  | some (q, v) => some (c ∧ q, .d (.raw v))
  | none => none

def isShift : BinOp → Bool
  | .shl | .shr => true
  | _ => false

def pvBin (P : Program) (op : BinOp) (t : TypeId) (x y : Prop × AV) : Option (Prop × AV) :=
  match x.2, y.2 with
  | .d (.raw (.int k a)), .d (.raw (.int k' b)) => if isShift op then withC (x.1 ∧ y.1) (shiftBin op k a b) else withC (x.1 ∧ y.1 ∧ k = k') (intBin op k a b)
  | .d (.raw (.string a)), .d (.raw (.string b)) => withC (x.1 ∧ y.1) (strBin op a b)
  | .d (.raw (.bool a)), .d (.raw (.bool b)) => match op with
    | .eql => some (x.1 ∧ y.1 ∧ kindT P t = .bool, .d (.raw (.bool (a == b))))
    | .neq => some (x.1 ∧ y.1 ∧ kindT P t = .bool, .d (.raw (.bool (!(a == b)))))
    | _ => none
  | .ptr _ _ _, .d (.raw (.pointer none)) => match op with
    | .eql => some (x.1 ∧ y.1 ∧ kindT P t = .ptr, .d (.raw (.bool false)))
    | .neq => some (x.1 ∧ y.1 ∧ kindT P t = .ptr, .d (.raw (.bool true)))
    | _ => none
  | .vp _, .d (.raw (.pointer none)) => match op with
    | .eql => some (x.1 ∧ y.1 ∧ kindT P t = .ptr, .d (.raw (.bool false)))
    | .neq => some (x.1 ∧ y.1 ∧ kindT P t = .ptr, .d (.raw (.bool true)))
    | _ => none
  | .d (.raw (.pointer none)), .d (.raw (.pointer none)) => match op with
    | .eql => some (x.1 ∧ y.1 ∧ kindT P t = .ptr, .d (.raw (.bool true)))
    | .neq => some (x.1 ∧ y.1 ∧ kindT P t = .ptr, .d (.raw (.bool false)))
    | _ => none
  | _, _ => none

def pvUn (op : UnOp) (x : Prop × AV) : Option (Prop × AV) :=
  match op, x.2 with
  | .not, .d (.raw (.bool b)) => some (x.1, .d (.raw (.bool (!b))))
  | .neg, .d (.raw (.int k n)) => some (x.1, .d (.raw (.int k (k.wrap (0 - n)))))
  | .xor, .d (.raw (.int k n)) => some (x.1, .d (.raw (.int k (k.wrap (BitVec.ofInt k.bits (if k.signed then -1 else k.max) ^^^ BitVec.ofInt k.bits n).toNat))))
  | _, _ => none

def D.byte : D → UInt8
  | .raw (.int .u8 n) => UInt8.ofNat n.toNat
  | _ => 0
def isByte (d : D) : Prop := ∃ b : UInt8, d = .raw (.int .u8 b.toNat)
def bytesOf (ds : List D) : ByteArray := ⟨(ds.map D.byte).toArray⟩

def pvConv (P : Program) (src dst : TypeId) (x : Prop × AV) : Option (Prop × AV) :=
  match x.2 with
  | .d (.raw (.int k n)) => match kindT P dst with
    | .int k' => some (x.1 ∧ kindT P src = .int k, .d (.raw (.int k' (k'.wrap n))))
    | _ => none
  | .d (.raw (.string s)) => match kindT P dst with
    | .str => some (x.1 ∧ kindT P src = .str, x.2)
    | _ => none
  | _ => none

/-- the elements that a slice value reads as, where it reads as frozen memory -/
def AV.els : AV → Option (Nat × List D)
  | .d (.sl k ds) => some (k, ds)
  | .own _ k ds => some (k, ds)
  | _ => none

def intOf : AV → Option (IntKind × Int)
  | .d (.raw (.int k n)) => some (k, n)
  | _ => none

def pvIdxAddr (P : Program) (t : TypeId) (x i : Prop × AV) : Option (Prop × AV) :=
  match intOf i.2 with
  | none => none
  | some (_, n) =>
    match x.2 with
    | .ptr j off p => match arrT P t with
      | some (m, k, _) => some (x.1 ∧ i.1 ∧ 0 ≤ n ∧ n < m, .ptr j (off + n.toNat * k) (p ++ [n.toNat]))
      | none => none
    | .vp (.arr m k ds) => match arrT P t with
      | some (m', k', _) => some (x.1 ∧ i.1 ∧ m' = m ∧ k' = k ∧ 0 ≤ n ∧ n < m, .vp (ds.getD n.toNat default))
      | none => none
    | .bsl j off k lo len p => match sliceT P t with
      | some (_, k', _, _) => some (x.1 ∧ i.1 ∧ k' = k ∧ 0 ≤ n ∧ n < len, .ptr j (off + (lo + n.toNat) * k) (p ++ [lo + n.toNat]))
      | none => none
    | y => match y.els, sliceT P t with
      | some (k, ds), some (_, k', _, _) => some (x.1 ∧ i.1 ∧ k' = k ∧ 0 ≤ n ∧ n < ds.length, .vp (ds.getD n.toNat default))
      | _, _ => none

def pvIdx (P : Program) (t : TypeId) (x i : Prop × AV) : Option (Prop × AV) :=
  match intOf i.2 with
  | none => none
  | some (_, n) =>
    match x.2 with
    | .d (.raw (.string s)) => some (x.1 ∧ i.1 ∧ kindT P t = .str ∧ 0 ≤ n ∧ n < s.size, .d (.raw (.int .u8 (byteAt s n))))
    | .d (.arr m k ds) => match arrT P t with
      | some (m', k', a) => some (x.1 ∧ i.1 ∧ m' = m ∧ k' = k ∧ 0 ≤ n ∧ n < m ∧ a = (ds.getD n.toNat default).isAg, .d (ds.getD n.toNat default))
      | none => none
    | _ => none

def pvField (P : Program) (t : TypeId) (x : Prop × AV) (i : Nat) : Option (Prop × AV) :=
  match fldT P t i with
  | none => none
  | some (o, k, a) =>
    match x.2 with
    | .d (.ag ds) => match ds[i]? with
      | some y => some (x.1 ∧ o = D.sizes (ds.take i) ∧ k = y.size ∧ a = y.isAg, .d y)
      | none => none
    | .ag xs => match xs[i]? with
      | some y => some (x.1 ∧ o = AV.sizes (xs.take i) ∧ k = y.size ∧ a = y.isAg, y)
      | none => none
    | _ => none

def pvFieldAddr (P : Program) (t : TypeId) (x : Prop × AV) (i : Nat) : Option (Prop × AV) :=
  match fldT P t i with
  | none => none
  | some (o, k, a) =>
    match x.2 with
    | .ptr j off p => some (x.1 ∧ k ≠ 0, .ptr j (off + o) (p ++ [i]))
    | .vp (.ag ds) => match ds[i]? with
      | some y => some (x.1 ∧ k ≠ 0 ∧ o = D.sizes (ds.take i), .vp y)
      | none => none
    | _ => none

def pvLoad (P : Program) (s : St) (t : TypeId) (x : Prop × AV) : Option (Prop × AV) :=
  match x.2 with
  | .vp y => some (x.1 ∧ szT P t = some y.size ∧ aggT P t = some y.isAg, .d y)
  | .ptr j off p => match s.L[j]? with
    | some (.box y) => match y.nav p with
      | some (z, off') => some (x.1 ∧ off' = off ∧ szT P t = some z.size ∧ aggT P t = some z.isAg, z)
      | none => none
    | _ => none
  | _ => none

def pvExtract (x : Prop × AV) (i : Nat) : Option (Prop × AV) :=
  match x.2 with
  | .tup xs => match xs[i]? with
    | some y => some (x.1, y)
    | none => none
  | _ => none

def pvLen (P : Program) (t : TypeId) (x : Prop × AV) : Option (Prop × AV) :=
  match x.2 with
  | .d (.raw (.string s)) => some (x.1 ∧ kindT P t = .str, .d (.raw (.int .i64 s.size)))
  | .d (.raw (.slice none 0 0)) => some (x.1 ∧ (sliceT P t).isSome = true, .d (.raw (.int .i64 0)))
  | .bsl _ _ _ _ len _ => some (x.1 ∧ (sliceT P t).isSome = true, .d (.raw (.int .i64 len)))
  | y => match y.els with
    | some (_, ds) => some (x.1 ∧ (sliceT P t).isSome = true, .d (.raw (.int .i64 ds.length)))
    | none => none

/-- an optional bound of a slice expression -/
def St.bd (s : St) : Option Operand → Option (Option (Prop × Int))
  | none => some none
  | some x => match intOf (s.us x).2 with
    | some (_, n) => some (some ((s.us x).1, n))
    | none => none

def bdC (b : Option (Prop × Int)) : Prop := match b with | some x => x.1 | none => True
def bdN (b : Option (Prop × Int)) (n : Int) : Int := match b with | some x => x.2 | none => n

def pvSlice (P : Program) (t : TypeId) (x : Prop × AV) (lo hi : Option (Prop × Int)) : Option (Prop × AV) :=
  match x.2 with
  | .d (.raw (.string s)) => some (x.1 ∧ bdC lo ∧ bdC hi ∧ kindT P t = .str ∧ 0 ≤ bdN lo 0 ∧ bdN lo 0 ≤ bdN hi s.size ∧ bdN hi s.size ≤ s.size,
      .d (.raw (.string (s.extract (bdN lo 0).toNat (bdN hi s.size).toNat))))
  | .bsl j off k l len p => match sliceT P t with
    | some (_, k', _, _) => some (x.1 ∧ bdC lo ∧ bdC hi ∧ k' = k ∧ 0 ≤ bdN lo 0 ∧ bdN lo 0 ≤ bdN hi len ∧ bdN hi len ≤ len,
        .bsl j off k (l + (bdN lo 0).toNat) ((bdN hi len).toNat - (bdN lo 0).toNat) p)
    | none => none
  | .ptr j off p => match arrT P t with
    | some (n, k, _) => some (x.1 ∧ bdC lo ∧ bdC hi ∧ 0 ≤ bdN lo 0 ∧ bdN lo 0 ≤ bdN hi n ∧ bdN hi n ≤ n,
        .bsl j off k (bdN lo 0).toNat ((bdN hi n).toNat - (bdN lo 0).toNat) p)
    | none => none
  | y => match y.els, sliceT P t with
    | some (k, ds), some (_, k', _, _) => some (x.1 ∧ bdC lo ∧ bdC hi ∧ k' = k ∧ 0 ≤ bdN lo 0 ∧ bdN lo 0 ≤ bdN hi ds.length ∧ bdN hi ds.length ≤ ds.length,
        .d (.sl k ((ds.take (bdN hi ds.length).toNat).drop (bdN lo 0).toNat)))
    | _, _ => none

/-! ### zero values, and what is built -/
def zeroD (P : Program) : Nat → TypeId → D
  | 0, _ => .raw undef
  | n + 1, t => match P.underlying t with
    | some (.struct fs) => .ag (fs.toList.map fun f => zeroD P n f.type)
    | some (.array m e) => .arr m ((szT P e).getD 0) (List.replicate m (zeroD P n e))
    | _ => match (P.info? t).bind (·.zero) with
      | some v => .raw v
      | none => .raw undef
mutual
def D.flat : D → Option (List Value)
  | .raw v => if v.oneCell' then some [v] else none
  | .ag ds => D.flats ds
  | .arr n k ds => if ds.length = n ∧ D.alls k ds = true then D.flats ds else none
  | .sl _ _ => none
def D.flats : List D → Option (List Value)
  | [] => some []
  | d :: r => match d.flat, D.flats r with
    | some a, some b => some (a ++ b)
    | _, _ => none
def D.alls (k : Nat) : List D → Bool
  | [] => true
  | d :: r => d.size == k && D.alls k r
end
def ZOK (P : Program) (t : TypeId) (z : D) : Prop := ∃ v i, P.info? t = some i ∧ i.zero = some v ∧ i.size = z.size ∧ z.flat = some v.cells.toList ∧ (z.isAg = true → ∃ c, v = .agg c) ∧ (z.isAg = false → v.cells = #[v])

def AV.toD : AV → Option D
  | .d x => some x
  | _ => none
def allD : List AV → Option (List D)
  | [] => some []
  | x :: r => match x.toD, allD r with
    | some a, some b => some (a :: b)
    | _, _ => none
def mkAg (xs : List AV) : AV :=
  match allD xs with
  | some ds => .d (.ag ds)
  | none => .ag xs
def AV.isVal : AV → Bool
  | .gd _ _ | .tup _ | .undef => false
  | _ => true
def placeT (P : Program) (t i : Nat) : Option (Nat × Nat) :=
  match fldT P t i with
  | some f => some (f.1, f.2.1)
  | none => none
def fillP (place : Nat → Option (Nat × Nat)) : List (Nat × (Prop × AV)) → List AV → Prop × List AV
  | [], xs => (True, xs)
  | (i, q, y) :: r, xs => (q ∧ i < xs.length ∧ y.size = (xs.getD i .undef).size ∧ place i = some (AV.sizes (xs.take i), y.size) ∧ y.isVal = true ∧ (fillP place r (xs.set i y)).1, (fillP place r (xs.set i y)).2)
def pvBuild (P : Program) (s : St) (t : TypeId) (parts : List (Nat × Operand)) : Option (Prop × AV) :=
  match zeroD P 9 t with
  | .ag zs => some (ZOK P t (.ag zs) ∧ (fillP (placeT P t) (parts.map fun q => (q.1, s.us q.2)) (zs.map .d)).1, mkAg (fillP (placeT P t) (parts.map fun q => (q.1, s.us q.2)) (zs.map .d)).2)
  | _ => none

def pvMax (op : Int → Int → Int) (x y : Prop × AV) : Option (Prop × AV) :=
  match x.2, y.2 with
  | .d (.raw (.int k a)), .d (.raw (.int _ b)) => some (x.1 ∧ y.1, .d (.raw (.int k (op a b))))
  | _, _ => none
def pvCall (P : Program) (s : St) (c : Call) : Option (Prop × AV) :=
  match c.callee with
  | .builtin .len => match c.args.toList, c.argTypes.toList with
    | [x], [t] => pvLen P t (s.us x)
    | _, _ => none
  | .builtin .max => match c.args.toList with
    | [x, y] => pvMax (fun a b => if b > a then b else a) (s.us x) (s.us y)
    | _ => none
  | .builtin .min => match c.args.toList with
    | [x, y] => pvMax (fun a b => if b < a then b else a) (s.us x) (s.us y)
    | _ => none
  | _ => none

/-- WHAT AN OPERATION COMES TO, where it leaves memory alone: what it asks, and its value -/
def pv (P : Program) (s : St) : Op → Option (Prop × AV)
  | .move x => some (True, s.ev x)
  | .assign x => some (True, s.ev x)
  | .pick c x y => match (s.us c).2 with
    | .d (.raw (.bool b)) => some ((s.us c).1 ∧ (b = true → (s.us x).1) ∧ (b = false → (s.us y).1), pickV b (s.us x).2 (s.us y).2)
    | _ => none
  | .load t x => pvLoad P s t (s.us x)
  | .nilCheck x => match (s.us x).2 with
    | .ptr _ _ _ => some (s.us x)
    | .vp _ => some (s.us x)
    | _ => none
  | .binOp op t x y _ => pvBin P op t (s.us x) (s.us y)
  | .unOp op _ x => pvUn op (s.us x)
  | .convert src dst x => pvConv P src dst (s.us x)
  | .slice t x lo hi mx => match mx with
    | some _ => none
    | none => match s.bd lo, s.bd hi with
      | some l, some h => pvSlice P t (s.us x) l h
      | _, _ => none
  | .fieldAddr t x i => pvFieldAddr P t (s.us x) i
  | .field t x i => pvField P t (s.us x) i
  | .indexAddr t x i => pvIdxAddr P t (s.us x) (s.us i)
  | .index t x i => pvIdx P t (s.us x) (s.us i)
  | .extract x i => pvExtract (s.us x) i
  | .build t ps => pvBuild P s t ps.toList
  | .call c => pvCall P s c
  | _ => none
end Go.Eng
