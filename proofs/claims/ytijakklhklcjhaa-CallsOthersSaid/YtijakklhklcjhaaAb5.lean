/- What an operation does to abstract values, by reckoning. -/
import Derived.Test.YtijakklhklcjhaaAb4
namespace Go.Proofs.YtijakklhklcjhaaA
open Go Go.RowKit
set_option linter.unusedVariables false
set_option linter.unusedSimpArgs false

inductive Ds where
  | int (k : IntKind) | bool | str | slice (e : Nat) | strct (fs : List (Nat × Nat × Bool)) | arr (n e : Nat) | ptr (e : Nat) | other

structure TI where
  d : Ds
  size : Nat
  bytes : Nat
  zero : List Value

def TI.agg (ti : TI) : Bool := match ti.d with
  | .strct _ => true
  | .arr _ _ => true
  | _ => false

def dsOf : TypeDesc → Ds
  | .int k => .int k
  | .bool => .bool
  | .string => .str
  | .slice e => .slice e
  | .struct fs => .strct (fs.toList.map fun f => (f.offset, f.type, f.name == "_"))
  | .array n e => .arr n e
  | .pointer e => .ptr e
  | _ => .other

/-- Structs and arrays that may not be held against each other as they are. -/
def badEq (P : Program) (t : Nat) (d : TypeDesc) : Bool := d.isRow && (P.stoodInHeld t || P.eqGuardType P.depth t)
def tinfo (P : Program) (t : Nat) : Option TI :=
  match P.underlying t, P.info? t with
  | some d, some i => match badEq P t d with
    | false => i.zero.map fun z => ⟨dsOf d, i.size, i.bytes, z.cells.toList⟩
    | true => none
  | _, _ => none

abbrev TT := List (Nat × TI)
def tget : TT → Nat → Option TI
  | [], _ => none
  | (k, i) :: l, t => match Nat.beq k t with
    | true => some i
    | false => tget l t
def TOk (P : Program) (T : TT) : Prop := ∀ t i, tget T t = some i → tinfo P t = some i
theorem TOk.nil (P : Program) : TOk P [] := fun t i h => by simp [tget] at h
theorem TOk.cons {P : Program} {T : TT} {t : Nat} {i : TI} (h : tinfo P t = some i) (k : TOk P T) : TOk P ((t, i) :: T) := by
  intro t' i' h'
  simp only [tget] at h'
  cases hb : Nat.beq t t' with
  | true =>
    rw [hb] at h'
    cases h'
    have := Nat.eq_of_beq_eq_true hb
    subst this
    exact h
  | false =>
    rw [hb] at h'
    exact k t' i' h'

/-- What an operation comes to. -/
inductive Ef where
  | no
  | val (x : A)
  | valn (c : Prop) (x : A)
  | splt (b : Bool) (x y : A)
  | new (cs : List A)
  | set (o : Nat) (cs : List A)
  | row (c : Prop) (kill : Option Nat) (e sz n : Nat) (f : Nat → List D)
  | bld (sz n : Nat) (f : Nat → List D)
  | call (f : FuncId) (xs : List A)

def vA (v : Value) : A := .p (.v v)
def cA : Value → A
  | .agg cs => .agg (cs.toList.map vA)
  | v => vA v
def opnd (st : St) : Operand → A
  | .tmp t => st.get t
  | .const v => cA v
  | .global g => vA (.pointer (some ⟨g, 0, none⟩))
  | .func f => .fn f []

def getA : List A → Nat → A
  | [], _ => .dead
  | x :: _, 0 => x
  | _ :: l, i + 1 => getA l i
def setA : List A → Nat → A → List A
  | [], _, _ => []
  | _ :: l, 0, x => x :: l
  | o :: l, i + 1, x => o :: setA l i x
def wrA : List A → Nat → List A → List A
  | cs, _, [] => cs
  | cs, off, y :: ys => wrA (setA cs off y) (off + 1) ys
def cellsA : A → List A
  | .agg cs => cs
  | x => [x]
def oneA : A → Bool
  | .dead => false
  | .agg _ => false
  | .tup _ => false
  | .p (.v x) => x.oneCell'
  | _ => true
def onesA : List A → Bool
  | [] => true
  | x :: xs => match oneA x with
    | true => onesA xs
    | false => false
def lenA : List A → Nat
  | [] => 0
  | _ :: l => lenA l + 1

/-- A value of type t at cell off. -/
def rdA (T : TT) (t : Nat) (cs : List A) (off : Nat) : Option A := match tget T t with
  | none => none
  | some ti => match ti.agg with
    | true => match Nat.ble (off + ti.size) (lenA cs) with
      | true => some (.agg ((cs.drop off).take ti.size))
      | false => none
    | false => match Nat.blt off (lenA cs) with
      | true => some (getA cs off)
      | false => none
def efO : Option A → Ef
  | some x => .val x
  | none => .no

inductive BR where
  | no
  | val (v : Value)
  | nd (c : Prop) (v : Value)
def BR.ef : BR → Ef
  | .no => .no
  | .val v => .val (vA v)
  | .nd c v => .valn c (vA v)

/-- & | ^ &^ on integers of a kind. -/
def bitsI (op : BinOp) (k : IntKind) (a b : Int) : Int := k.wrap (match op with
  | .and => (BitVec.ofInt k.bits a &&& BitVec.ofInt k.bits b).toNat
  | .or => (BitVec.ofInt k.bits a ||| BitVec.ofInt k.bits b).toNat
  | .xor => (BitVec.ofInt k.bits a ^^^ BitVec.ofInt k.bits b).toNat
  | _ => (BitVec.ofInt k.bits a &&& ~~~ BitVec.ofInt k.bits b).toNat : Nat)

def binI (op : BinOp) (k : IntKind) (a b : Int) : BR := match op with
  | .add => .val (.int k (k.wrap (a + b)))
  | .sub => .val (.int k (k.wrap (a - b)))
  | .mul => .val (.int k (k.wrap (a * b)))
  | .quo => .nd (b ≠ 0) (.int k (k.wrap (a.tdiv b)))
  | .rem => .nd (b ≠ 0) (.int k (a.tmod b))
  | .and => .val (.int k (bitsI .and k a b))
  | .or => .val (.int k (bitsI .or k a b))
  | .xor => .val (.int k (bitsI .xor k a b))
  | .andNot => .val (.int k (bitsI .andNot k a b))
  | .eql => .val (.bool (a == b))
  | .neq => .val (.bool (a != b))
  | .lss => .val (.bool (decide (a < b)))
  | .leq => .val (.bool (decide (a ≤ b)))
  | .gtr => .val (.bool (decide (a > b)))
  | .geq => .val (.bool (decide (a ≥ b)))
  | _ => .no

def binS (op : BinOp) (a b : ByteArray) : BR := match op with
  | .add => .nd (((a.size + b.size : Nat) : Int) ≤ 9223372036854775807) (.string (a ++ b))
  | .eql => .val (.bool (a.toList == b.toList))
  | .neq => .val (.bool (!(a.toList == b.toList)))
  | .lss => .val (.bool (Op.bytesLess a.toList b.toList))
  | .geq => .val (.bool (!(Op.bytesLess a.toList b.toList)))
  | _ => .no

def kEq : IntKind → IntKind → Bool
  | .i8, .i8 => true | .i16, .i16 => true | .i32, .i32 => true | .i64, .i64 => true
  | .u8, .u8 => true | .u16, .u16 => true | .u32, .u32 => true | .u64, .u64 => true
  | _, _ => false

def binV (d : Option Ds) (op : BinOp) : Value → Value → BR
  | .int k a, .int k' b => match op with
    | .shl => .nd (0 ≤ b) (.int k (k.wrap (a * 2 ^ (min b.toNat k.bits))))
    | .shr => .nd (0 ≤ b) (.int k (a.fdiv (2 ^ (min b.toNat k.bits))))
    | _ => match kEq k k' with
      | true => binI op k a b
      | false => .no
  | .string a, .string b => binS op a b
  | .bool a, .bool b => match d, op with
    | some .bool, .eql => .val (.bool (a == b))
    | some .bool, .neq => .val (.bool (!(a == b)))
    | _, _ => .no
  | .pointer none, .pointer none => match d, op with
    | some (.ptr _), .eql => .val (.bool true)
    | some (.ptr _), .neq => .val (.bool false)
    | _, _ => .no
  | _, _ => .no

/-- Are two cells the same? -/
def eqV : Value → Value → Option Bool
  | .int k a, .int k' b => match kEq k k' with
    | true => some (a == b)
    | false => none
  | .bool a, .bool b => some (a == b)
  | .string a, .string b => some (a == b)
  | _, _ => none

def tds (T : TT) (t : Nat) : Option Ds := match tget T t with
  | some i => some i.d
  | none => none

def ptrNil (d : Option Ds) (op : BinOp) : BR := match d, op with
  | some (.ptr _), .eql => .val (.bool false)
  | some (.ptr _), .neq => .val (.bool true)
  | _, _ => .no

/-- Are two values of a type the same? -/
def eqTA (T : TT) : Nat → Nat → A → A → Option Bool
  | 0, _, _, _ => none
  | d + 1, t, x, y => match tds T t with
    | some .bool => match x, y with
      | .p (.v (.bool a)), .p (.v (.bool b)) => some (a == b)
      | _, _ => none
    | some (.int _) => match x, y with
      | .p (.v (.int k a)), .p (.v (.int k' b)) => match kEq k k' with
        | true => some (a == b)
        | false => none
      | _, _ => none
    | some .str => match x, y with
      | .p (.v (.string a)), .p (.v (.string b)) => some (a.toList == b.toList)
      | _, _ => none
    | some (.strct fs) => match x, y with
      | .agg cs, .agg ds => eqFs (eqTA T d) fs cs ds
      | _, _ => none
    | some (.arr n e) => match tget T e with
      | some ti => match x, y with
        | .agg cs, .agg ds => eqIs (eqTA T d) e ti.size cs ds n 0
        | _, _ => none
      | none => none
    | _ => none
where
  eqFs (q : Nat → A → A → Option Bool) : List (Nat × Nat × Bool) → List A → List A → Option Bool
    | [], _, _ => some true
    | (off, u, blank) :: fs, cs, ds => match blank with
      | true => eqFs q fs cs ds
      | false => match rdA T u cs off, rdA T u ds off with
        | some a, some b => match q u a b, eqFs q fs cs ds with
          | some r, some s => some (r && s)
          | _, _ => none
        | _, _ => none
  eqIs (q : Nat → A → A → Option Bool) (e sz : Nat) (cs ds : List A) : Nat → Nat → Option Bool
    | 0, _ => some true
    | n + 1, i => match rdA T e cs (i * sz), rdA T e ds (i * sz) with
      | some a, some b => match q e a b, eqIs q e sz cs ds n (i + 1) with
        | some r, some s => some (r && s)
        | _, _ => none
      | _, _ => none
def eqBR (op : BinOp) : Option Bool → BR
  | some b => match op with
    | .eql => .val (.bool b)
    | .neq => .val (.bool (!b))
    | _ => .no
  | none => .no

def binA (T : TT) (op : BinOp) (t : Nat) : A → A → BR
  | .agg cs, .agg ds => eqBR op (eqTA T 9 t (.agg cs) (.agg ds))
  | .p (.v x), .p (.v y) => binV (tds T t) op x y
  | .ref _ _, .p (.v (.pointer none)) => ptrNil (tds T t) op
  | .p (.v (.pointer none)), .ref _ _ => ptrNil (tds T t) op
  | _, _ => .no

def unA (op : UnOp) : A → BR
  | .p (.v (.int k n)) => match op with
    | .neg => .val (.int k (k.wrap (0 - n)))
    | .xor => .val (.int k (bitsI .xor k (match k.signed with | true => -1 | false => k.max) n))
    | _ => .no
  | .p (.v (.bool b)) => match op with
    | .not => .val (.bool (!b))
    | _ => .no
  | _ => .no

def convA (T : TT) (s d : Nat) : A → BR
  | .p (.v (.int k n)) => match tds T s, tds T d with
    | some _, some (.int k') => .val (.int k' (k'.wrap n))
    | _, _ => .no
  | .p (.v (.string x)) => match tds T s, tds T d with
    | some .str, some .str => .val (.string x)
    | _, _ => .no
  | _ => .no

/-- Field f of a struct type: where it begins, of which type. -/
def fieldOf (T : TT) (s f : Nat) : Option (Nat × Nat) := match tds T s with
  | some (.strct fs) => match fs[f]? with
    | some (off, t, _) => some (off, t)
    | none => none
  | _ => none

def fieldAddrA (T : TT) (s f : Nat) (x : A) : Ef := match fieldOf T s f with
  | none => .no
  | some (off, t) => match tget T t with
    | none => .no
    | some ti => match Nat.beq ti.size 0 with
      | true => .no
      | false => match x with
        | .ref o k => .val (.ref o (k + off))
        | .imm cs k => .val (.imm cs (k + off))
        | _ => .no

def fieldA (T : TT) (s f : Nat) (x : A) : Ef := match fieldOf T s f with
  | none => .no
  | some (off, t) => match x with
    | .agg cs => efO (rdA T t cs off)
    | _ => .no

def indexAddrA (T : TT) (t : Nat) (x i : A) : Ef := match tds T t with
  | some (.slice e) => match tget T e, i with
    | some ti, .p (.v (.int _ k)) => match x with
      | .p (.sl sz n f) => match Nat.beq sz ti.size with
        | true => .valn (0 ≤ k ∧ k < (n : Int)) (.imm (f k.toNat) 0)
        | false => .no
      | .own _ _ sz n f => match Nat.beq sz ti.size with
        | true => .valn (0 ≤ k ∧ k < (n : Int)) (.imm (f k.toNat) 0)
        | false => .no
      | _ => .no
    | _, _ => .no
  | some (.arr n e) => match tget T e, i with
    | some ti, .p (.v (.int _ k)) => match x with
      | .ref o off => .valn (0 ≤ k ∧ k < (n : Int)) (.ref o (off + k.toNat * ti.size))
      | _ => .no
    | _, _ => .no
  | _ => .no

/-- Byte i of a string. -/
def bAt (s : ByteArray) (i : Int) : Int := ((s.data.getD i.toNat 0).toNat : Int)

def intsOf (k : IntKind) : List A → Option (List Int)
  | [] => some []
  | .p (.v (.int k' n)) :: l => match kEq k k', intsOf k l with
    | true, some ns => some (n :: ns)
    | _, _ => none
  | _ :: _ => none
def strsOf : List A → Option (List ByteArray)
  | [] => some []
  | .p (.v (.string s)) :: l => match strsOf l with
    | some ns => some (s :: ns)
    | none => none
  | _ :: _ => none
def boolsOf : List A → Option (List Bool)
  | [] => some []
  | .p (.v (.bool s)) :: l => match boolsOf l with
    | some ns => some (s :: ns)
    | none => none
  | _ :: _ => none
/-- The cell at a place that is reckoned, of cells of one kind. -/
def colA (cs : List A) (i : Nat) : Option A := match cs with
  | .p (.v (.int k _)) :: _ => match intsOf k cs with
    | some ns => some (vA (.int k (ns.getD i 0)))
    | none => none
  | .p (.v (.string _)) :: _ => match strsOf cs with
    | some ns => some (vA (.string (ns.getD i ByteArray.empty)))
    | none => none
  | .p (.v (.bool _)) :: _ => match boolsOf cs with
    | some ns => some (vA (.bool (ns.getD i false)))
    | none => none
  | _ => none

/-- One cell of each row. -/
def colL (cs : List A) (sz c : Nat) : Nat → Nat → List A
  | 0, _ => []
  | n + 1, r => getA cs (r * sz + c) :: colL cs sz c n (r + 1)
/-- Row i. -/
def elemA (cs : List A) (sz n i : Nat) : Nat → Nat → Option (List A)
  | 0, _ => some []
  | m + 1, c => match colA (colL cs sz c n 0) i, elemA cs sz n i m (c + 1) with
    | some x, some l => some (x :: l)
    | _, _ => none
def indexA (T : TT) (t : Nat) (x i : A) : Ef := match x, i with
  | .agg cs, .p (.v (.int _ k)) => match tds T t with
    | some (.arr n e) => match tget T e with
      | some te => match Nat.beq (lenA cs) (n * te.size), elemA cs te.size n k.toNat te.size 0 with
        | true, some l => match te.agg with
          | true => .valn (0 ≤ k ∧ k < (n : Int)) (.agg l)
          | false => match l with
            | [y] => .valn (0 ≤ k ∧ k < (n : Int)) y
            | _ => .no
        | _, _ => .no
      | none => .no
    | _ => .no
  | .p (.v (.string s)), .p (.v (.int _ k)) => match tds T t with
    | some .str => .valn (0 ≤ k ∧ k < (s.size : Int)) (vA (.int .u8 (bAt s k)))
    | _ => .no
  | _, _ => .no

def lenE (T : TT) (t : Nat) : A → BR
  | .p (.v (.string s)) => match tds T t with
    | some .str => .val (.int .i64 s.size)
    | _ => .no
  | .p (.v (.slice none 0 0)) => match tds T t with
    | some (.slice _) => .val (.int .i64 0)
    | _ => .no
  | .p (.sl _ n _) => match tds T t with
    | some (.slice _) => .val (.int .i64 n)
    | _ => .no
  | .own _ _ _ n _ => match tds T t with
    | some (.slice _) => .val (.int .i64 n)
    | _ => .no
  | _ => match tds T t with
    | some (.arr n _) => .val (.int .i64 n)
    | _ => .no

/-- min and max of integers. -/
def mxI (a b : Int) : Int := if b > a then b else a
def mnI (a b : Int) : Int := if b < a then b else a
def foldI (k : IntKind) (h : Int → Int → Int) (a : Int) : List A → Option Int
  | [] => some a
  | .p (.v (.int k' b)) :: l => match kEq k k' with
    | true => foldI k h (h a b) l
    | false => none
  | _ :: _ => none
def minmaxE (h : Int → Int → Int) : List A → BR
  | .p (.v (.int k a)) :: l => match foldI k h a l with
    | some n => .val (.int k n)
    | none => .no
  | _ => .no

/-- A value's cells as data. -/
def toD : A → Option D
  | .p x => some x
  | .own _ _ sz n f => some (.sl sz n f)
  | _ => none
def toDs : List A → Option (List D)
  | [] => some []
  | x :: xs => match toD x, toDs xs with
    | some y, some ys => some (y :: ys)
    | _, _ => none

def apF (n : Nat) (f g : Nat → List D) (i : Nat) : List D := if i < n then f i else g (i - n)

/-- A slice as what is appended: how many, their cells. -/
def asRow : A → Option (Nat × (Nat → List D))
  | .p (.v (.slice none 0 0)) => some (0, fun _ => [])
  | .p (.sl _ n f) => some (n, f)
  | .own _ _ _ n f => some (n, f)
  | _ => none
def szRow (sz : Nat) : A → Bool
  | .p (.v (.slice none 0 0)) => true
  | .p (.sl s _ _) => Nat.beq s sz
  | .own _ _ s _ _ => Nat.beq s sz
  | _ => false

def appendA (T : TT) (ts : List Bool) (t t' : Nat) (s x : A) : Ef := match Nat.beq t t', tds T t with
  | true, some (.slice e) => match tget T e with
    | some ti => match Nat.ble ti.size 0 || !(Nat.beq ti.zero.length ti.size), szRow ti.size x, asRow x with
      | false, true, some (m, g) => match s with
        | .p (.v (.slice none 0 0)) => .row (m * ti.bytes ≤ 140737488355328 ∧ m ≤ maxLen) none e ti.size m g
        | .own q e' sz n f => match Nat.beq e e', Nat.beq sz ti.size, ts[q]? with
          | true, true, some true => .row ((n + m) * ti.bytes ≤ 140737488355328 ∧ n + m ≤ maxLen) (some q) e ti.size (n + m) (apF n f g)
          | _, _, _ => .no
        | _ => .no
      | _, _, _ => .no
    | none => .no
  | _, _ => .no

/-- The cells of a struct or array put together: parts at their places. -/
def fillA (T : TT) (place : Nat → Option (Nat × Nat)) : List A → List (Nat × A) → Option (List A)
  | cs, [] => some cs
  | cs, (i, x) :: l => match place i with
    | none => none
    | some (off, sz) => match Nat.beq (lenA (cellsA x)) sz, Nat.ble (off + sz) (lenA cs), onesA (cellsA x) with
      | true, true, true => fillA T place (wrA cs off (cellsA x)) l
      | _, _, _ => none
def szOf (T : TT) (t : Nat) : Nat := match tget T t with
  | some ti => ti.size
  | none => 0
def placesT (T : TT) : List (Nat × Nat × Bool) → Option (List (Nat × Nat))
  | [] => some []
  | (off, u, _) :: l => match tget T u, placesT T l with
    | some tu, some r => some ((off, tu.size) :: r)
    | _, _ => none
def buildA (T : TT) (t : Nat) (parts : List (Nat × A)) : Ef := match tget T t with
  | none => .no
  | some ti => match ti.d with
    | .strct fs => match placesT T fs with
      | none => .no
      | some pl => match (fillA T (fun i => pl[i]?) (ti.zero.map vA) parts) with
        | some cs => .val (.agg cs)
        | none => .no
    | .arr n e => match tget T e with
      | none => .no
      | some te => match (fillA T (fun i => some (i * te.size, te.size)) (ti.zero.map vA) parts) with
        | some cs => .val (.agg cs)
        | none => .no
    | _ => .no

/-- The cells that a slice put together begins with. -/
def zsA (zs : List A) (l : Nat) : Nat → Nat → List A
  | 0, _ => []
  | m + 1, i => getA zs (i % l) :: zsA zs l m (i + 1)
/-- Row i of cells put together, column by column where they are alike. -/
def colF (cs : List A) (ds : List D) (sz n i : Nat) : List D := match elemA cs sz n i sz 0 with
  | some l => (match toDs l with
    | some ds => ds
    | none => (ds.drop (i * sz)).take sz)
  | none => (ds.drop (i * sz)).take sz
def buildSliceA (T : TT) (t len : Nat) (parts : List (Nat × A)) : Ef := match tds T t with
  | some (.slice e) => match tget T e with
    | none => .no
    | some te => match Nat.ble (len * te.size) 16777216 with
      | false => .no
      | true => match len with
        | 0 => (match parts with
          | [] => .row True none e te.size 0 (fun _ => [])
          | _ => .no)
        | _ + 1 => match Nat.ble te.size 0 with
          | true => .no
          | false => match fillA T (fun i => some (i * te.size, te.size)) (zsA (te.zero.map vA) (lenA (te.zero.map vA)) (len * te.size) 0) parts with
            | none => .no
            | some cs => match onesA cs, toDs cs with
              | true, some ds => .bld te.size len (colF cs ds te.size len)
              | _, _ => .no
  | _ => .no

/-- A bound of a slice expression. -/
def intA : Option A → Option (Option Int)
  | none => some none
  | some (.p (.v (.int _ k))) => some (some k)
  | _ => none
def sliceA (T : TT) (t : Nat) (x : A) (lo hi mx : Option A) : Ef := match mx, intA lo, intA hi with
  | none, some l, some h => match tds T t with
    | some .str => match x with
      | .p (.v (.string s)) => .valn (0 ≤ l.getD 0 ∧ l.getD 0 ≤ h.getD s.size ∧ h.getD s.size ≤ (s.size : Int)) (vA (.string (s.extract (l.getD 0).toNat (h.getD s.size).toNat)))
      | _ => .no
    | some (.slice e) => match tget T e with
      | some ti => match x with
        | .p (.sl sz n f) => match Nat.beq sz ti.size with
          | true => .valn (0 ≤ l.getD 0 ∧ l.getD 0 ≤ h.getD n ∧ h.getD n ≤ (n : Int)) (.p (.sl sz ((h.getD n).toNat - (l.getD 0).toNat) (fun i => f ((l.getD 0).toNat + i))))
          | false => .no
        | .own _ _ sz n f => match Nat.beq sz ti.size with
          | true => .valn (0 ≤ l.getD 0 ∧ l.getD 0 ≤ h.getD n ∧ h.getD n ≤ (n : Int)) (.p (.sl sz ((h.getD n).toNat - (l.getD 0).toNat) (fun i => f ((l.getD 0).toNat + i))))
          | false => .no
        | _ => .no
      | none => .no
    | _ => .no
  | _, _, _ => .no

def allOneB : List Value → Bool
  | [] => true
  | x :: xs => match x.oneCell' with
    | true => allOneB xs
    | false => false

def opnds (st : St) : List Operand → List A
  | [] => []
  | x :: xs => opnd st x :: opnds st xs

def callE (T : TT) (st : St) (c : Call) : Ef := match c.callee with
  | .value f => match opnd st f with
    | .fn g caps => .call g (opnds st c.args.toList ++ caps)
    | _ => .no
  | .builtin b => match b, opnds st c.args.toList, c.argTypes.toList with
    | .len, [x], [t] => (lenE T t x).ef
    | .max, xs, _ => (minmaxE mxI xs).ef
    | .min, xs, _ => (minmaxE mnI xs).ef
    | .append, [s, x], [t, t'] => appendA T st.tags t t' s x
    | _, _, _ => .no
  | _ => .no

def loadA (T : TT) (st : St) (t : Nat) : A → Ef
  | .ref o off => match obGet st.objs o with
    | .cells cs => efO (rdA T t cs off)
    | _ => .no
  | .imm cs off => efO (rdA T t (cs.map .p) off)
  | _ => .no

def storeA (T : TT) (st : St) (t : Nat) (x : A) : A → Ef
  | .ref o off => match obGet st.objs o, tget T t with
    | .cells cs, some ti => match Nat.beq (lenA (cellsA x)) ti.size, Nat.ble (off + ti.size) (lenA cs), onesA (cellsA x) with
      | true, true, true => .set o (wrA cs off (cellsA x))
      | _, _, _ => .no
    | _, _ => .no
  | _ => .no

def ev (T : TT) (st : St) (o : Op) : Ef := match o with
  | .move x => .val (opnd st x)
  | .assign x => .val (opnd st x)
  | .pick c a b => match opnd st c with
    | .p (.v (.bool t)) => .splt t (opnd st a) (opnd st b)
    | _ => .no
  | .alloc t => match tget T t with
    | some ti => match allOneB ti.zero with
      | true => .new (ti.zero.map vA)
      | false => .no
    | none => .no
  | .box t x => match onesA (cellsA (opnd st x)) with
    | true => .new (cellsA (opnd st x))
    | false => .no
  | .build t parts => buildA T t (parts.toList.map fun q => (q.1, opnd st q.2))
  | .buildSlice t len parts => buildSliceA T t len (parts.toList.map fun q => (q.1, opnd st q.2))
  | .slice t x l h m => sliceA T t (opnd st x) (l.map (opnd st)) (h.map (opnd st)) (m.map (opnd st))
  | .load t x => loadA T st t (opnd st x)
  | .store t x y => storeA T st t (opnd st y) (opnd st x)
  | .nilCheck x => match opnd st x with
    | .ref o off => .val (.ref o off)
    | .imm cs off => .val (.imm cs off)
    | _ => .no
  | .binOp op t x y _ => (binA T op t (opnd st x) (opnd st y)).ef
  | .unOp op _ x => (unA op (opnd st x)).ef
  | .convert s d x => (convA T s d (opnd st x)).ef
  | .fieldAddr s x f => fieldAddrA T s f (opnd st x)
  | .field s x f => fieldA T s f (opnd st x)
  | .indexAddr t x i => indexAddrA T t (opnd st x) (opnd st i)
  | .index t x i => indexA T t (opnd st x) (opnd st i)
  | .extract x i => match opnd st x with
    | .tup vs => match Nat.blt i (lenA vs) with
      | true => .val (getA vs i)
      | false => .no
    | _ => .no
  | .call c => callE T st c
  | _ => .no
end Go.Proofs.YtijakklhklcjhaaA
