/- The evaluator: what an operation does to abstract values (see PeA). -/
import Derived.Test.YtkgkpmdbcjelfaaPeC
set_option linter.unusedVariables false
set_option linter.unusedSimpArgs false
namespace Go.PE
open Go

/-! ### types, as closed facts -/
def ty? (P : Program) (t : TypeId) : Option (Bool × Nat) :=
  match P.info? t, P.underlying t with
  | some i, some (.struct _) => some (true, i.size)
  | some i, some (.array _ _) => some (true, i.size)
  | some i, some _ => if i.size = 1 then some (false, 1) else none
  | _, _ => none
/-- A slice type: element type, cells, bytes. -/
def sl? (P : Program) (t : TypeId) : Option (TypeId × Nat × Nat) :=
  match P.underlying t with
  | some (.slice e) => match P.info? e with
    | some i => match i.zero with
      | some z => if z.cells.size = i.size ∧ 0 < i.size ∧ 0 < i.bytes then some (e, i.size, i.bytes) else none
      | none => none
    | none => none
  | _ => none
def ar? (P : Program) (t : TypeId) : Option (Nat × Nat) :=
  match P.underlying t with
  | some (.array n e) => (P.info? e).map fun i => (n, i.size)
  | _ => none
def fo? (P : Program) (t : TypeId) (f : Nat) : Option (Nat × TypeId) :=
  match P.underlying t with
  | some (.struct fs) => match fs[f]? with
    | some x => match P.info? x.type with
      | some i => if i.size = 0 then none else some (x.offset, x.type)
      | none => none
    | none => none
  | _ => none
/-- What kind of type is it? 0: string, 1: bool, 2: another, 3: interface, 4: array, 5: pointer, 6: slice; 10 + ..: integers -/
def kd? (P : Program) (t : TypeId) : Nat :=
  match P.underlying t with
  | some .string => 0
  | some .bool => 1
  | some (.interface _) => 3
  | some (.array _ _) => 4
  | some (.pointer _) => 5
  | some (.slice _) => 6
  | some (.struct fs) => if fs.toList.all (fun f => (P.info? f.type).isSome) then 7 else 2
  | some (.int k) => match k with | .i8 => 10 | .i16 => 11 | .i32 => 12 | .i64 => 13 | .u8 => 14 | .u16 => 15 | .u32 => 16 | .u64 => 17
  | some _ => 2
  | none => 9
def ik : Nat → Option IntKind
  | 10 => some .i8 | 11 => some .i16 | 12 => some .i32 | 13 => some .i64 | 14 => some .u8 | 15 => some .u16 | 16 => some .u32 | 17 => some .u64
  | _ => none
def meth? (P : Program) (t : TypeId) (name : String) : Option FuncId :=
  match P.info? t with
  | some i => match i.methods.find? (·.name == name) with
    | some m => match m.path.toList, m.func, P.underlying t with
      | [], some (f, true), some (.pointer _) => some f
      | [], some (_, false), some (.pointer _) => none
      | [], some (f, false), some _ => some f
      | _, _, _ => none
    | none => none
  | none => none
/-- Structs that are compared cell by cell: their cells' kinds. -/
def constA : Value → AV
  | .int k n => .d (.int k n)
  | .bool b => .d (.bool b)
  | .string s => .d (.str s.data.toList)
  | .nilIface => .d .nilI
  | .slice none 0 0 => .nilS
  | .pointer none => .d (.raw (.pointer none))
  | .nilFunc => .d (.raw .nilFunc)
  | .map none => .d (.raw (.map none))
  | _ => .undef
def zero? (P : Program) (t : TypeId) : Option (List AV) :=
  match P.info? t with
  | some i => i.zero.map fun z => z.cells.toList.map constA
  | none => none

/-! ### values -/
def St.ev (st : St) : Operand → AV
  | .tmp t => st.t.getD t .undef
  | .const v => constA v
  | .func f => .fn (.func f) [] []
  | .global _ => .undef
def oneD : D → Bool
  | .agg _ => false
  | _ => true
def oneA : AV → Bool
  | .undef | .agg _ | .tup _ => false
  | .d x => oneD x
  | _ => true
def cellsA : AV → List AV
  | .d (.agg cs) => cs.map .d
  | .agg cs => cs
  | v => [v]
def cellsD : D → List D
  | .agg cs => cs
  | d => [d]
def allD : List AV → Option (List D)
  | [] => some []
  | .d x :: l => (allD l).map (x :: ·)
  | _ :: _ => none
def mkAgg (cs : List AV) : AV := match allD cs with | some ds => .d (.agg ds) | none => .agg cs
def mkV (g : Bool) (cs : List AV) : AV := if g then mkAgg cs else match cs with | [c] => c | _ => .undef
def mkD (g : Bool) (cs : List D) : D := if g then .agg cs else match cs with | [c] => c | _ => .nilI
def splice {α : Type} (cs : List α) (off : Nat) (new : List α) : List α := cs.take off ++ new ++ cs.drop (off + new.length)

mutual
def toD (r : List Arr) : AV → Option D
  | .d x => some x
  | .nilS => some (.list [])
  | .arr id n => match r[id]? with | some A => if n = A.es.length then some (.list A.es) else none | none => none
  | .agg cs => (toDL r cs).map .agg
  | .iface t x => (toD r x).map (.iface t)
  | _ => none
def toDL (r : List Arr) : List AV → Option (List D)
  | [] => some []
  | x :: l => match toD r x, toDL r l with | some d, some ds => some (d :: ds) | _, _ => none
end
mutual
def arrIds : AV → List Nat
  | .arr id _ => [id]
  | .agg cs => arrIdsL cs
  | .iface _ x => arrIds x
  | _ => []
def arrIdsL : List AV → List Nat
  | [] => []
  | x :: l => arrIds x ++ arrIdsL l
end
def share1 (r : List Arr) (id : Nat) : List Arr := match r[id]? with | some A => r.set id { A with sh := true } | none => r
def share (r : List Arr) : List Nat → List Arr
  | [] => r
  | id :: l => share (share1 r id) l

inductive Res where
  | fail
  | ok (p : Prop) (v : AV) (st : St)
  | elem (p : Prop) (es : List (List D)) (k n : Nat) (st : St)
  | byte (p : Prop) (s : List UInt8) (k : Nat) (st : St)
  | call (g : FuncId) (args : List AV) (st : St)
  | panic (v : AV) (st : St)

def St.new (st : St) (cells : List AV) : St := { st with b := st.b ++ [cells] }
def St.row (st : St) (A : Arr) : St := { st with r := st.r ++ [A] }

def toDR (args : List AV) (st : St) (f : List D → St → Res) : Res :=
  match toDL st.r args with
  | some ds => f ds { st with r := share st.r (arrIdsL args) }
  | none => .fail

/-! ### integers, strings -/
def bitsI (op : BinOp) (k : IntKind) (x y : Int) : Int :=
  let a := BitVec.ofInt k.bits x
  let b := BitVec.ofInt k.bits y
  match op with
  | .and => k.wrap (a &&& b).toNat
  | .or => k.wrap (a ||| b).toNat
  | .xor => k.wrap (a ^^^ b).toNat
  | _ => k.wrap (a &&& ~~~b).toNat
def intR (op : BinOp) (k : IntKind) (x : Int) (k' : IntKind) (y : Int) (st : St) : Res :=
  match op with
  | .add => .ok (k = k') (.d (.int k (k.wrap (x + y)))) st
  | .sub => .ok (k = k') (.d (.int k (k.wrap (x - y)))) st
  | .mul => .ok (k = k') (.d (.int k (k.wrap (x * y)))) st
  | .quo => .ok (k = k' ∧ y ≠ 0) (.d (.int k (k.wrap (x.tdiv y)))) st
  | .rem => .ok (k = k' ∧ y ≠ 0) (.d (.int k (x.tmod y))) st
  | .and | .or | .xor | .andNot => .ok (k = k') (.d (.int k (bitsI op k x y))) st
  | .shl => .ok (0 ≤ y) (.d (.int k (k.wrap (x * 2 ^ (min y.toNat k.bits))))) st
  | .shr => .ok (0 ≤ y) (.d (.int k (x.fdiv (2 ^ (min y.toNat k.bits))))) st
  | .eql => .ok (k = k') (.d (.bool (decide (x = y)))) st
  | .neq => .ok (k = k') (.d (.bool (decide (x ≠ y)))) st
  | .lss => .ok (k = k') (.d (.bool (decide (x < y)))) st
  | .leq => .ok (k = k') (.d (.bool (decide (x ≤ y)))) st
  | .gtr => .ok (k = k') (.d (.bool (decide (y < x)))) st
  | .geq => .ok (k = k') (.d (.bool (decide (y ≤ x)))) st
def strR (op : BinOp) (x y : List UInt8) (st : St) : Res :=
  match op with
  | .add => .ok (x.length + y.length ≤ 9223372036854775807) (.d (.str (x ++ y))) st
  | .eql => .ok True (.d (.bool (decide (x = y)))) st
  | .neq => .ok True (.d (.bool (decide (x ≠ y)))) st
  | .lss => .ok True (.d (.bool (Op.bytesLess x y))) st
  | .leq => .ok True (.d (.bool (Op.bytesLess x y || decide (x = y)))) st
  | .gtr => .ok True (.d (.bool (!(Op.bytesLess x y || decide (x = y))))) st
  | .geq => .ok True (.d (.bool (!Op.bytesLess x y))) st
  | _ => .fail
/-- Cells of plain kinds, compared. -/
def eqD : D → D → Option Bool
  | .int k a, .int k' b => if k = k' then some (decide (a = b)) else none
  | .bool a, .bool b => some (a == b)
  | .str a, .str b => some (decide (a = b))
  | _, _ => none
def eqL : List D → List D → Option Bool
  | [], [] => some true
  | x :: l, y :: m => match eqD x y, eqL l m with | some a, some b => some (a && b) | _, _ => none
  | _, _ => none
/-- Fields one behind the other. -/
def lay (P : Program) : Nat → List Field → Option Nat
  | k, [] => some k
  | k, f :: fs => if f.offset = k then (match P.info? f.type with | some i => lay P (k + i.size) fs | none => none) else none
def catK : List (Option (List Nat)) → Option (List Nat)
  | [] => some []
  | some a :: l => (catK l).map (a ++ ·)
  | none :: _ => none
/-- The kinds of the cells of a type that is compared cell by cell, and is no more than that. -/
def cellK (P : Program) : Nat → TypeId → Option (List Nat)
  | 0, _ => none
  | d + 1, t => match P.info? t, P.underlying t with
    | some i, some .bool => if i.size = 1 then some [1] else none
    | some i, some .string => if i.size = 1 then some [0] else none
    | some i, some (.int _) => if i.size = 1 then some [2] else none
    | some i, some (.struct fs) => if P.stoodInHeld t = false ∧ lay P 0 fs.toList = some i.size ∧ fs.toList.all (fun f => f.name != "_") = true then catK (fs.toList.map fun f => cellK P d f.type) else none
    | _, _ => none
def cellsT (P : Program) (t : TypeId) : Option (List Nat) := if 20 ≤ P.depth then cellK P 20 t else none
def fit1 : Nat → D → Bool
  | 0, .str _ => true
  | 1, .bool _ => true
  | 2, .int _ _ => true
  | _, _ => false
def fits : List Nat → List D → Bool
  | [], [] => true
  | n :: k, x :: l => fit1 n x && fits k l
  | _, _ => false
def isC : Operand → Bool
  | .const _ => true
  | .tmp _ => false
  | .global _ => false
  | .func _ => false
def eqR (P : Program) (neg nc : Bool) (t : TypeId) (x y : D) (st : St) : Res :=
  match x, y with
  | .bool a, .bool b => if kd? P t = 1 then .ok True (.d (.bool ((a == b) != neg))) st else .fail
  | .nilI, .nilI => if kd? P t = 3 ∧ nc = true then .ok True (.d (.bool !neg)) st else .fail
  | .nilI, .iface _ _ => if kd? P t = 3 then .ok True (.d (.bool neg)) st else .fail
  | .iface _ _, .nilI => if kd? P t = 3 then .ok True (.d (.bool neg)) st else .fail
  | .agg a, .agg b => match cellsT P t with
    | some ks => if kd? P t = 7 ∧ (fits ks a && fits ks b) = true then (match eqL a b with | some c => .ok True (.d (.bool (c != neg))) st | none => .fail) else .fail
    | none => .fail
  | _, _ => .fail
def binR (P : Program) (op : BinOp) (nc : Bool) (t : TypeId) (x y : AV) (st : St) : Res :=
  match x, y with
  | .d (.int k a), .d (.int k' b) => intR op k a k' b st
  | .d (.str a), .d (.str b) => strR op a b st
  | .d x, .d y => match op with | .eql => eqR P false nc t x y st | .neq => eqR P true nc t x y st | _ => .fail
  | _, _ => .fail
def unR (op : UnOp) (x : AV) (st : St) : Res :=
  match op, x with
  | .not, .d (.bool b) => .ok True (.d (.bool (!b))) st
  | .neg, .d (.int k n) => .ok True (.d (.int k (k.wrap (0 - n)))) st
  | _, _ => .fail

/-! ### memory -/
def loadR (P : Program) (t : TypeId) (a : AV) (st : St) : Res :=
  match ty? P t, a with
  | some (g, n), .ptr id off => match st.b[id]? with
    | some cells => .ok (off + n ≤ cells.length) (mkV g ((cells.drop off).take n)) st
    | none => .fail
  | some (g, n), .cptr cs => .ok (n ≤ cs.length) (.d (mkD g (cs.take n))) st
  | some (g, n), .eptr id m i off => match st.r[id]? with
    | some A => .ok (m = A.es.length ∧ i < A.es.length ∧ off + n ≤ A.sz) (.d (mkD g (((A.es.getD i []).drop off).take n))) st
    | none => .fail
  | _, _ => .fail
def storeR (P : Program) (t : TypeId) (a v : AV) (st : St) : Res :=
  match ty? P t, a with
  | some (_, n), .ptr id off => match st.b[id]? with
    | some cells => .ok ((cellsA v).length = n ∧ off + n ≤ cells.length ∧ (cellsA v).all oneA = true) .undef { st with b := st.b.set id (splice cells off (cellsA v)) }
    | none => .fail
  | some (_, n), .eptr id m i off => toDR [v] st fun ds st => match ds, st.r[id]? with
    | [d], some A => .ok (m = A.es.length ∧ i < A.es.length ∧ (cellsD d).length = n ∧ off + n ≤ A.sz ∧ A.sh = false ∧ (cellsD d).all oneD = true) .undef
        { st with r := st.r.set id { A with es := A.es.set i (splice (A.es.getD i []) off (cellsD d)) } }
    | _, _ => .fail
  | _, _ => .fail
def fieldAddrR (P : Program) (t : TypeId) (f : Nat) (a : AV) (st : St) : Res :=
  match fo? P t f, a with
  | some (o, _), .ptr id off => .ok True (.ptr id (off + o)) st
  | some (o, _), .cptr cs => .ok (o ≤ cs.length) (.cptr (cs.drop o)) st
  | some (o, _), .eptr id m i off => match st.r[id]? with
    | some A => .ok (m = A.es.length) (.eptr id m i (off + o)) st
    | none => .fail
  | _, _ => .fail
def indexAddrR (P : Program) (t : TypeId) (x i : AV) (st : St) : Res :=
  match x, i with
  | .d (.list es), .d (.int _ k) => match sl? P t with
    | some (_, n, _) => .elem (0 ≤ k ∧ k < es.length) es k.toNat n st
    | none => .fail
  | .arr id m, .d (.int _ k) => match sl? P t, st.r[id]? with
    | some (_, n, _), some A => .ok (m = A.es.length ∧ 0 ≤ k ∧ k < A.es.length ∧ n = A.sz) (.eptr id m k.toNat 0) st
    | _, _ => .fail
  | .ptr id off, .d (.int _ k) => match ar? P t with
    | some (len, n) => .ok (0 ≤ k ∧ k < len) (.ptr id (off + k.toNat * n)) st
    | none => .fail
  | .cptr cs, .d (.int _ k) => match ar? P t with
    | some (len, n) => .ok (0 ≤ k ∧ k < len ∧ k.toNat * n ≤ cs.length) (.cptr (cs.drop (k.toNat * n))) st
    | none => .fail
  | _, _ => .fail
def indexR (P : Program) (t : TypeId) (x i : AV) (st : St) : Res :=
  match x, i with
  | .d (.str s), .d (.int _ k) => if kd? P t = 0 then .byte (0 ≤ k ∧ k < s.length) s k.toNat st else .fail
  | _, _ => .fail
def aggA : AV → Bool
  | .agg _ | .d (.agg _) => true
  | _ => false
def fieldR (P : Program) (t : TypeId) (x : AV) (f : Nat) (st : St) : Res :=
  match fo? P t f with
  | some (o, ft) => match ty? P ft with
    | some (g, n) => .ok (o + n ≤ (cellsA x).length ∧ aggA x = true) (mkV g (((cellsA x).drop o).take n)) st
    | none => .fail
  | none => .fail
def boundA (d : Int) : Option AV → Option Int
  | none => some d
  | some (.d (.int _ k)) => some k
  | some _ => none
def sliceR (P : Program) (t : TypeId) (x : AV) (lo hi mx : Option AV) (st : St) : Res :=
  match mx, x with
  | none, .d (.list es) => match boundA 0 lo, boundA es.length hi with
    | some l, some h => if kd? P t = 6 then (match sl? P t with | some (_, n, _) => .ok ((0 ≤ l ∧ l ≤ h ∧ h ≤ es.length) ∧ ∀ e ∈ es, e.length = n) (.d (.list ((es.take h.toNat).drop l.toNat))) st | none => .fail) else .fail
    | _, _ => .fail
  | none, .arr id m => match st.r[id]? with
    | some A => match boundA 0 lo, boundA A.es.length hi with
      | some l, some h => match sl? P t with
        | some (_, n, _) => .ok ((0 ≤ l ∧ l ≤ h ∧ h ≤ A.es.length) ∧ m = A.es.length ∧ n = A.sz) (.d (.list ((A.es.take h.toNat).drop l.toNat))) { st with r := share1 st.r id }
        | none => .fail
      | _, _ => .fail
    | none => .fail
  | none, .d (.str s) => match boundA 0 lo, boundA s.length hi with
    | some l, some h => if kd? P t = 0 then .ok (0 ≤ l ∧ l ≤ h ∧ h ≤ s.length) (.d (.str ((s.take h.toNat).drop l.toNat))) st else .fail
    | _, _ => .fail
  | none, .nilS => match boundA 0 lo, boundA 0 hi with
    | some l, some h => match sl? P t with
      | some _ => .ok (l = 0 ∧ h = 0) .nilS st
      | none => .fail
    | _, _ => .fail
  | _, _ => .fail

/-! ### making -/
def assignR (P : Program) (t : TypeId) (v : AV) (st : St) : Res :=
  match v with
  | .nilS => match sl? P t with
    | some (e, n, _) => .ok True (.arr st.r.length 0) (st.row ⟨n, e, [], false⟩)
    | none => .ok True .nilS st
  | v => .ok True v st
def allocR (P : Program) (t : TypeId) (st : St) : Res :=
  match zero? P t with
  | some z => .ok (z.all oneA = true) (.ptr st.b.length 0) (st.new z)
  | none => .fail
def boxR (v : AV) (st : St) : Res := .ok ((cellsA v).all oneA = true) (.ptr st.b.length 0) (st.new (cellsA v))
def fillA (pl : Nat → Option (Nat × Nat)) (z : List AV) : List (Nat × AV) → Option (List AV)
  | [] => some z
  | (f, v) :: l => match pl f with
    | some (o, n) => if (cellsA v).length = n ∧ o + n ≤ z.length ∧ (cellsA v).all oneA = true then fillA pl (splice z o (cellsA v)) l else none
    | none => none
def plS (P : Program) (t : TypeId) (f : Nat) : Option (Nat × Nat) :=
  match fo? P t f with
  | some (o, ft) => (ty? P ft).map fun g => (o, g.2)
  | none => none
def plA (n i : Nat) : Option (Nat × Nat) := some (i * n, n)
def buildR (P : Program) (t : TypeId) (ps : List (Nat × AV)) (st : St) : Res :=
  match zero? P t with
  | some z => if z.all oneA = true then (match kd? P t, ar? P t with
    | 7, _ => match fillA (plS P t) z ps with | some cs => .ok True (mkAgg cs) st | none => .fail
    | 4, some (_, n) => match fillA (plA n) z ps with | some cs => .ok True (mkAgg cs) st | none => .fail
    | _, _ => .fail) else .fail
  | none => .fail
def bsliceR (P : Program) (t : TypeId) (len : Nat) (ps : List (Nat × AV)) (st : St) : Res :=
  match sl? P t with
  | some (e, n, _) => toDR (ps.map (·.2)) st fun ds st =>
      .ok (ps.map (·.1) = List.range len ∧ len * n ≤ 16777216 ∧ ds.all (fun d => decide ((cellsD d).length = n) && (cellsD d).all oneD) = true) (.arr st.r.length len) (st.row ⟨n, e, ds.map cellsD, false⟩)
  | none => .fail
def mkSliceR (P : Program) (t : TypeId) (l c : AV) (st : St) : Res :=
  match sl? P t, l, c with
  | some (e, n, by_), .d (.int _ a), .d (.int _ b) => match zero? P e with
    | some z => match toDL [] z with
      | some ds => .ok (0 ≤ a ∧ a ≤ b ∧ b * by_ ≤ 140737488355328 ∧ ds.all oneD = true) (.arr st.r.length a.toNat) (st.row ⟨n, e, List.replicate a.toNat ds, false⟩)
      | none => .fail
    | none => .fail
  | _, _, _ => .fail
def mkIfR (P : Program) (t : TypeId) (x : AV) (st : St) : Res :=
  if kd? P t = 3 ∨ kd? P t = 9 then .fail else match x with
  | .d x => .ok True (.d (.iface t x)) st
  | x => .ok True (.iface t x) st
def extractR (x : AV) (i : Nat) (st : St) : Res :=
  match x with
  | .tup cs => match cs[i]? with | some c => .ok True c st | none => .fail
  | _ => .fail
def nilCheckR (x : AV) (st : St) : Res :=
  match x with
  | .ptr _ _ => .ok True x st
  | .cptr _ => .ok True x st
  | .eptr _ _ _ _ => .ok False x st
  | .fn (.func _) _ _ => .ok True x st
  | _ => .fail
def pickR (c a b : AV) (st : St) : Res :=
  match c with
  | .d (.bool c) => .ok True (if c then a else b) st
  | _ => .fail
def bytesD : List (List D) → Option (List UInt8)
  | [] => some []
  | [.int .u8 n] :: l => (bytesD l).map (UInt8.ofNat n.toNat :: ·)
  | _ :: _ => none
def convR (P : Program) (s t : TypeId) (x : AV) (st : St) : Res :=
  if kd? P s = 9 then .fail else match x with
  | .d (.int _ n) => match ik (kd? P t) with | some k => .ok True (.d (.int k (k.wrap n))) st | none => .fail
  | .d (.str l) => if kd? P s = 0 ∧ kd? P t = 0 then .ok True x st else .fail
  | x => if kd? P t = 0 then toDR [x] st fun ds st => match ds, sl? P s with
      | [.list es], some (e, _, _) => if kd? P e = 14 then (match bytesD es with | some l => .ok True (.d (.str l)) st | none => .fail) else .fail
      | _, _ => .fail
    else .fail

/-! ### builtins -/
def lenR (P : Program) (t : TypeId) (x : AV) (st : St) : Res :=
  match x with
  | .d (.list es) => if kd? P t = 6 then .ok True (.d (.int .i64 es.length)) st else .fail
  | .nilS => if kd? P t = 6 then .ok True (.d (.int .i64 0)) st else .fail
  | .arr id m => if kd? P t = 6 then (match st.r[id]? with | some A => .ok (m = A.es.length) (.d (.int .i64 m)) st | none => .fail) else .fail
  | .d (.str s) => if kd? P t = 0 then .ok True (.d (.int .i64 s.length)) st else .fail
  | _ => .fail
def byteCell (b : UInt8) : List D := [.int .u8 b.toNat]
/-- What is appended. -/
def srcA (P : Program) (tx : TypeId) (n : Nat) (y : AV) (st : St) : Option (Prop × List (List D)) :=
  match y with
  | .nilS => if kd? P tx = 6 then some (True, []) else none
  | .d (.list es) => if kd? P tx = 6 then some (∀ e ∈ es, e.length = n, es) else none
  | .arr id m => if kd? P tx = 6 then (match st.r[id]? with | some A => some (m = A.es.length ∧ A.sz = n, A.es) | none => none) else none
  | .d (.str s) => if kd? P tx = 0 then some (n = 1, s.map byteCell) else none
  | _ => none
def appendR (P : Program) (t tx : TypeId) (x y : AV) (st : St) : Res :=
  match sl? P t with
  | some (e, n, by_) => match srcA P tx n y st with
    | some (p, news) => match x with
      | .nilS => .ok (p ∧ news.length * by_ ≤ 140737488355328) (.arr st.r.length news.length) (st.row ⟨n, e, news, false⟩)
      | .arr id m => match st.r[id]? with
        | some A => .ok (p ∧ m = A.es.length ∧ A.sz = n ∧ A.ety = e ∧ (A.es.length + news.length) * by_ ≤ 140737488355328) (.arr id (A.es ++ news).length) { st with r := st.r.set id { A with es := A.es ++ news } }
        | none => .fail
      | _ => .fail
    | none => .fail
  | none => .fail
def mmR (mx : Bool) (x y : AV) (st : St) : Res :=
  match x, y with
  | .d (.int k a), .d (.int _ b) => .ok True (.d (.int k (if mx then max a b else min a b))) st
  | .d (.str a), .d (.str b) => if mx then .fail else .ok True (.d (.str (if Op.bytesLess a b || decide (a = b) then a else b))) st
  | _, _ => .fail
def builtinR (P : Program) (b : Builtin) (ats : List TypeId) (args : List AV) (st : St) : Res :=
  match b, ats, args with
  | .len, [t], [x] => lenR P t x st
  | .append, [t, tx], [x, y] => appendR P t tx x y st
  | .min, _, [x, y] => mmR false x y st
  | .max, _, [x, y] => mmR true x y st
  | _, _, _ => .fail
def invokeR (P : Program) (recv : AV) (name : String) (args : List AV) (st : St) : Res :=
  match recv with
  | .d (.iface t d) => match meth? P t name with | some f => .call f (.d d :: args) st | none => .fail
  | .iface t x => match meth? P t name with | some f => .call f (x :: args) st | none => .fail
  | _ => .fail
def callR (P : Program) (c : Call) (st : St) : Res :=
  match c.callee with
  | .builtin b => builtinR P b c.argTypes.toList (c.args.toList.map st.ev) st
  | .value f => match st.ev f with
    | .fn (.func g) first caps => .call g (first ++ c.args.toList.map st.ev ++ caps) st
    | _ => .fail
  | .invoke recv name => invokeR P (st.ev recv) name (c.args.toList.map st.ev) st

def assertR (P : Program) (ty : TypeId) (ok : Bool) (x : AV) (st : St) : Res :=
  match ok, x with
  | true, .d (.iface t d) => if kd? P ty ≠ 3 ∧ kd? P ty ≠ 9 ∧ t = ty then .ok True (.tup [.d d, .d (.bool true)]) st else .fail
  | _, _ => .fail
def panicR (x : AV) (st : St) : Res :=
  match x with
  | .d (.iface t d) => .panic (.d (.iface t d)) st
  | .iface t x => .panic (.iface t x) st
  | _ => .fail

def opR (P : Program) (o : Oper) (st : St) : Res :=
  match o.op with
  | .move x => .ok True (st.ev x) st
  | .assign x => assignR P o.type (st.ev x) st
  | .pick c a b => pickR (st.ev c) (st.ev a) (st.ev b) st
  | .alloc t => allocR P t st
  | .box _ x => boxR (st.ev x) st
  | .build t ps => buildR P t (ps.toList.map fun p => (p.1, st.ev p.2)) st
  | .buildSlice t n ps => bsliceR P t n (ps.toList.map fun p => (p.1, st.ev p.2)) st
  | .load t a => loadR P t (st.ev a) st
  | .store t a x => storeR P t (st.ev a) (st.ev x) st
  | .nilCheck x => nilCheckR (st.ev x) st
  | .binOp op t x y _ => binR P op (isC x || isC y) t (st.ev x) (st.ev y) st
  | .unOp op _ x => unR op (st.ev x) st
  | .convert s t x => convR P s t (st.ev x) st
  | .makeInterface t x => mkIfR P t (st.ev x) st
  | .makeFunc f a b => .ok True (.fn f (a.toList.map st.ev) (b.toList.map st.ev)) st
  | .makeSlice t l c => mkSliceR P t (st.ev l) (st.ev c) st
  | .slice t x lo hi mx => sliceR P t (st.ev x) (lo.map st.ev) (hi.map st.ev) (mx.map st.ev) st
  | .fieldAddr t x f => fieldAddrR P t f (st.ev x) st
  | .field t x f => fieldR P t (st.ev x) f st
  | .indexAddr t x i => indexAddrR P t (st.ev x) (st.ev i) st
  | .index t x i => indexR P t (st.ev x) (st.ev i) st
  | .extract x i => extractR (st.ev x) i st
  | .call c => callR P c st
  | .panic x => panicR (st.ev x) st
  | .typeAssert x _ ty ok => assertR P ty ok (st.ev x) st
  | _ => .fail
end Go.PE
