/- The abstract executor: values, heap, operations, code. It runs Go code on a heap in which every append that may grow lays a new row, so that what it says holds whatever capacity is drawn. -/
import Derived.RangeFuncLeaves
namespace Go.Vx
noncomputable section

/-! ### Tries -/
inductive Tr (α : Type) where
  | nil
  | node (l : Tr α) (v : Option α) (r : Tr α)

def Tr.getF {α : Type} (f : Nat) : Tr α → Nat → Option α :=
  Nat.rec (motive := fun _ => Tr α → Nat → Option α) (fun _ _ => none)
    (fun _ ih t m => (Tr.rec (motive := fun _ => _) (none) (fun l v r _ _ => (Bool.rec (motive := fun _ => _) ((Bool.rec (motive := fun _ => _) (ih r (Nat.div m 2)) (ih l (Nat.div m 2)) (Nat.beq (Nat.mod m 2) 0))) (v) (Nat.ble m 1))) (t))) f
def Tr.setF {α : Type} (x : Option α) (f : Nat) : Tr α → Nat → Tr α :=
  Nat.rec (motive := fun _ => Tr α → Nat → Tr α) (fun t _ => t)
    (fun _ ih t m => (Tr.rec (motive := fun _ => _) ((Bool.rec (motive := fun _ => _) ((Bool.rec (motive := fun _ => _) (Tr.node .nil none (ih .nil (Nat.div m 2))) (Tr.node (ih .nil (Nat.div m 2)) none .nil) (Nat.beq (Nat.mod m 2) 0))) (Tr.node .nil x .nil) (Nat.ble m 1))) (fun l v r _ _ => (Bool.rec (motive := fun _ => _) ((Bool.rec (motive := fun _ => _) (Tr.node l v (ih r (Nat.div m 2))) (Tr.node (ih l (Nat.div m 2)) v r) (Nat.beq (Nat.mod m 2) 0))) (Tr.node l x r) (Nat.ble m 1))) (t))) f
def Tr.get {α : Type} (t : Tr α) (n : Nat) : Option α := Tr.getF (Nat.succ (Nat.log2 (Nat.succ n))) t (Nat.succ n)
def Tr.set {α : Type} (t : Tr α) (n : Nat) (x : α) : Tr α := Tr.setF (some x) (Nat.succ (Nat.log2 (Nat.succ n))) t (Nat.succ n)

/-! ### Whole numbers, known or not -/
inductive SE where
  | lit (n : Int)
  | var (i : Nat)
  | ar (op : BinOp) (k : IntKind) (a b : SE)
  | cv (k : IntKind) (a : SE)

def ieq (x y : Int) : Bool :=
  Int.casesOn (motive := fun _ => Bool) x (fun a => Int.casesOn (motive := fun _ => Bool) y (fun b => Nat.beq a b) (fun _ => false))
    (fun a => Int.casesOn (motive := fun _ => Bool) y (fun _ => false) (fun b => Nat.beq a b))
def ile (x y : Int) : Bool :=
  Int.casesOn (motive := fun _ => Bool) x (fun a => Int.casesOn (motive := fun _ => Bool) y (fun b => Nat.ble a b) (fun _ => false))
    (fun a => Int.casesOn (motive := fun _ => Bool) y (fun _ => true) (fun b => Nat.ble b a))
def notB (b : Bool) : Bool := (Bool.rec (motive := fun _ => _) (true) (false) (b))
def ilt (a b : Int) : Bool := notB (ile b a)
def addI (x y : Int) : Int :=
  Int.casesOn (motive := fun _ => Int) x (fun a => Int.casesOn (motive := fun _ => Int) y (fun b => .ofNat (Nat.add a b)) (fun _ => Int.add x y)) (fun _ => Int.add x y)
def subI (x y : Int) : Int :=
  Int.casesOn (motive := fun _ => Int) x (fun a => Int.casesOn (motive := fun _ => Int) y
    (fun b => (Bool.rec (motive := fun _ => _) (.negSucc (Nat.sub (Nat.sub b a) 1)) (.ofNat (Nat.sub a b)) (Nat.ble b a))) (fun _ => Int.sub x y)) (fun _ => Int.sub x y)

def pw : IntKind → Nat
  | .i8 | .u8 => 256
  | .i16 | .u16 => 65536
  | .i32 | .u32 => 4294967296
  | .i64 | .u64 => 18446744073709551616
def half : IntKind → Nat
  | .i8 | .u8 => 128
  | .i16 | .u16 => 32768
  | .i32 | .u32 => 2147483648
  | .i64 | .u64 => 9223372036854775808
/-- a number modulo m, from 0 on -/
def lowM (m : Nat) (n : Int) : Nat := Int.casesOn (motive := fun _ => Nat) n (fun a => Nat.mod a m) (fun a => Nat.sub (Nat.sub m 1) (Nat.mod a m))
def backM (m h n : Nat) : Int := (Bool.rec (motive := fun _ => _) (.ofNat n) (.negSucc (Nat.sub (Nat.sub m n) 1)) (Nat.ble h n))
def wrS (m h : Nat) (n : Int) : Int := backM m h (lowM m n)
def wrU (m : Nat) (n : Int) : Int := .ofNat (lowM m n)
def wr (k : IntKind) (n : Int) : Int :=
  IntKind.casesOn (motive := fun _ => Int) k (wrS 256 128 n) (wrS 65536 32768 n) (wrS 4294967296 2147483648 n) (wrS 18446744073709551616 9223372036854775808 n)
    (wrU 256 n) (wrU 65536 n) (wrU 4294967296 n) (wrU 18446744073709551616 n)
def lowN (k : IntKind) (n : Int) : Nat := lowM (pw k) n
/-- of a number from 0 on, below the modulus -/
def backI (k : IntKind) (n : Nat) : Int := wr k (.ofNat n)

def bits (k : IntKind) : Nat := match k with
  | .i8 | .u8 => 8
  | .i16 | .u16 => 16
  | .i32 | .u32 => 32
  | .i64 | .u64 => 64

/-- what an operation on numbers comes to; none: it panics, or is no such one -/
structure ArF where
  f : IntKind → Int → Int → Option Int
def arI (op : BinOp) : ArF :=
  match op with
  | .add => ⟨fun k x y => some (wr k (addI x y))⟩
  | .sub => ⟨fun k x y => some (wr k (subI x y))⟩
  | .mul => ⟨fun k x y => some (wr k (Int.mul x y))⟩
  | .quo => ⟨fun k x y => cond (ieq y 0) none (some (wr k (Int.tdiv x y)))⟩
  | .rem => ⟨fun _ x y => cond (ieq y 0) none (some (Int.tmod x y))⟩
  | .and => ⟨fun k x y => some (backI k (Nat.land (lowN k x) (lowN k y)))⟩
  | .or => ⟨fun k x y => some (backI k (Nat.lor (lowN k x) (lowN k y)))⟩
  | .xor => ⟨fun k x y => some (backI k (Nat.xor (lowN k x) (lowN k y)))⟩
  | .andNot => ⟨fun k x y => some (backI k (Nat.land (lowN k x) (Nat.sub (Nat.sub (pw k) 1) (lowN k y))))⟩
  | .shl => ⟨fun k x y => match y with
    | .ofNat b => some (wr k (Int.mul x (.ofNat (Nat.pow 2 (cond (Nat.ble b (bits k)) b (bits k))))))
    | .negSucc _ => none⟩
  | .shr => ⟨fun k x y => match y with
    | .ofNat b => some (Int.fdiv x (.ofNat (Nat.pow 2 (cond (Nat.ble b (bits k)) b (bits k)))))
    | .negSucc _ => none⟩
  | _ => ⟨fun _ _ _ => none⟩

structure CmpF where
  f : Int → Int → Bool
def cmpI (op : BinOp) : Option CmpF :=
  match op with
  | .eql => some ⟨ieq⟩
  | .neq => some ⟨fun x y => notB (ieq x y)⟩
  | .lss => some ⟨ilt⟩
  | .leq => some ⟨ile⟩
  | .gtr => some ⟨fun x y => ilt y x⟩
  | .geq => some ⟨fun x y => ile y x⟩
  | _ => none

/-! ### Values -/
inductive Cap where
  | exact (n : Nat)
  | rest (d : Nat)

inductive NilK where
  | p | s | m | f | i

/-- the rest: what a loop's body is to the function; an empty slice at the end of what is known of a row: element a on, of size z, of the row from place o = d elements on -/
inductive OAV where
  | yld (l : Nat)
  | emp (b o d a z : Nat)

inductive AV where
  | bool (b : Bool)
  | int (k : IntKind) (n : Int)
  | sym (k : IntKind) (e : SE)
  | str (s : List Nat)
  | ptr (b o : Nat)
  | slc (b o n : Nat) (c : Cap)
  | mp (r : Nat)
  | fn (f : Fn) (first captured : List AV)
  | agg (l : List AV)
  | tup (l : List AV)
  | ifc (t : TypeId) (v : AV)
  | nil (k : NilK)
  | oth (o : OAV)

structure ME where
  key : AV
  val : AV
  born : Nat

structure HLoop where
  state : LoopState
  pending : Option Code
  tmps : Tr AV
  ntmps : Nat
  mask : Nat
  params : Array Tmp
  assign : Code
  body : Code
  defers : Nat

inductive HO where
  | row (cells : List AV) (es grp pos : Nat)
  | mapo (es : List ME) (clock : Nat)
  | mit (m : Option Nat) (since : Nat) (seen : List Nat) (last : Nat)
  | lop (l : HLoop)
  | dfr
  | dead

structure St where
  hp : Tr HO
  nx : Nat
  gr : Tr (List Nat)
  df : List Nat

/-! ### Equality -/
def eqBin : BinOp → BinOp → Bool
  | .add, .add | .sub, .sub | .mul, .mul | .quo, .quo | .rem, .rem | .and, .and | .or, .or | .xor, .xor | .shl, .shl | .shr, .shr | .andNot, .andNot => true
  | _, _ => false
def rankK (k : IntKind) : Nat := IntKind.casesOn (motive := fun _ => Nat) k 0 1 2 3 4 5 6 7
def eqK (a b : IntKind) : Bool := Nat.beq (rankK a) (rankK b)
def SE.beq : SE → SE → Bool
  | .lit a, .lit b => ieq a b
  | .var a, .var b => Nat.beq a b
  | .ar o k a b, .ar o' k' a' b' => eqBin o o' && eqK k k' && a.beq a' && b.beq b'
  | .cv k a, .cv k' a' => eqK k k' && a.beq a'
  | _, _ => false
def natsBeq : List Nat → List Nat → Bool
  | [], [] => true
  | a :: l, b :: m => cond (Nat.beq a b) (natsBeq l m) false
  | _, _ => false
def NilK.beq : NilK → NilK → Bool
  | .p, .p | .s, .s | .m, .m | .f, .f | .i, .i => true
  | _, _ => false
def OAV.beq : OAV → OAV → Bool
  | .yld a, .yld b => Nat.beq a b
  | _, _ => false
def Cap.beq : Cap → Cap → Bool
  | .exact a, .exact b => Nat.beq a b
  | .rest a, .rest b => Nat.beq a b
  | _, _ => false
/-- are two functions surely one? -/
def eqFn : Fn → Fn → Bool
  | .func f, .func g => Nat.beq f g
  | _, _ => false
mutual
def AV.beq : AV → AV → Bool
  | .bool a, .bool b => cond a b (!b)
  | .int k a, .int j b => eqK k j && ieq a b
  | .sym k a, .sym j b => eqK k j && a.beq b
  | .str a, .str b => natsBeq a b
  | .ptr b o, .ptr c p => Nat.beq b c && Nat.beq o p
  | .slc b o n c, .slc b' o' n' c' => Nat.beq b b' && Nat.beq o o' && Nat.beq n n' && c.beq c'
  | .mp r, .mp s => Nat.beq r s
  | .fn f a b, .fn g c d => eqFn f g && avL a c && avL b d
  | .agg a, .agg b => avL a b
  | .tup a, .tup b => avL a b
  | .ifc t v, .ifc u w => Nat.beq t u && v.beq w
  | .nil a, .nil b => a.beq b
  | .oth a, .oth b => a.beq b
  | _, _ => false
def avL : List AV → List AV → Bool
  | [], [] => true
  | a :: l, b :: m => a.beq b && avL l m
  | _, _ => false
 end

/-! ### Constants -/
def ofScalar : Value → Option AV
  | .bool b => some (.bool b)
  | .int k n => some (.int k n)
  | .string s => some (.str (s.data.toList.map fun b => b.toNat))
  | .pointer none => some (.nil .p)
  | .slice none 0 0 => some (.nil .s)
  | .map none => some (.nil .m)
  | .nilFunc => some (.nil .f)
  | .nilIface => some (.nil .i)
  | _ => none
def ofScalars : List Value → Option (List AV)
  | [] => some []
  | v :: l => match ofScalar v, ofScalars l with
    | some a, some m => some (a :: m)
    | _, _ => none
def ofValue : Value → Option AV
  | .agg cs => (ofScalars cs.toList).map .agg
  | .tuple cs => (ofScalars cs.toList).map .tup
  | v => ofScalar v

def AV.cells (v : AV) : List AV :=
  AV.casesOn (motive_1 := fun _ => List AV) v (fun _ => [v]) (fun _ _ => [v]) (fun _ _ => [v]) (fun _ => [v]) (fun _ _ => [v]) (fun _ _ _ _ => [v]) (fun _ => [v]) (fun _ _ _ => [v]) (fun l => l) (fun _ => [v]) (fun _ _ => [v]) (fun _ => [v]) (fun _ => [v])
def undefA : AV := .tup []

def nth {α : Type} (l : List α) (n : Nat) : Option α :=
  Nat.rec (motive := fun _ => List α → Option α) (fun l => (List.rec (motive := fun _ => _) (none) (fun a _ _ => some a) (l))) (fun _ ih l => (List.rec (motive := fun _ => _) (none) (fun _ l _ => ih l) (l))) n l
def takeX {α : Type} (n : Nat) (l : List α) : Option (List α) :=
  Nat.rec (motive := fun _ => List α → Option (List α)) (fun _ => some []) (fun _ ih l => (List.rec (motive := fun _ => _) (none) (fun a l _ => (Option.rec (motive := fun _ => _) (none) (fun m => some (a :: m)) (ih l))) (l))) n l
def dropX {α : Type} (n : Nat) (l : List α) : List α :=
  Nat.rec (motive := fun _ => List α → List α) (fun l => l) (fun _ ih l => (List.rec (motive := fun _ => _) ([]) (fun _ l _ => ih l) (l))) n l
/-- n values from place o on; none: there are not so many -/
def sub {α : Type} (l : List α) (o n : Nat) : Option (List α) := takeX n (dropX o l)
/-- new values over the first ones; none: there are not so many -/
def put0 {α : Type} (xs : List α) (l : List α) : Option (List α) :=
  (List.rec (motive := fun _ => List α → Option (List α)) (fun l => some l) (fun x _ ih l => (List.rec (motive := fun _ => _) (none) (fun _ l _ => (Option.rec (motive := fun _ => _) (none) (fun m => some (x :: m)) (ih l))) (l))) (xs)) l
/-- new values from place o on; none: they do not lie within -/
def put {α : Type} (l : List α) (o : Nat) (xs : List α) : Option (List α) :=
  Nat.rec (motive := fun _ => List α → Option (List α)) (fun l => put0 xs l) (fun _ ih l => (List.rec (motive := fun _ => _) (none) (fun a l _ => (Option.rec (motive := fun _ => _) (none) (fun m => some (a :: m)) (ih l))) (l))) o l
def lenL {α : Type} (l : List α) : Nat := (List.rec (motive := fun _ => Nat) (0) (fun _ _ n => Nat.succ n) (l))

/-! ### The heap -/
def St.obj (s : St) (b : Nat) : HO := (s.hp.get b).getD .dead

/-- the rows of a group -/
def members (s : St) (g : Nat) : List Nat := (s.gr.get g).getD [g]

/-- all others of a group that have a cell at places from lo up to hi are dead -/
def killOne (me lo hi : Nat) (h : Tr HO) (b : Nat) : Tr HO :=
  cond (Nat.beq b me) h (match h.get b with
    | some (.row cells _ _ pos) => cond (Nat.ble hi pos || Nat.ble (Nat.add pos (lenL cells)) lo) h (h.set b .dead)
    | _ => h)
def killAll (me lo hi : Nat) : List Nat → Tr HO → Tr HO
  | [], h => h
  | b :: l, h => killAll me lo hi l (killOne me lo hi h b)

def St.withHp (s : St) (h : Tr HO) : St := St.casesOn (motive := fun _ => St) s fun _ nx gr df => ⟨h, nx, gr, df⟩
def St.new (s : St) (o : HO) : Nat × St := St.casesOn (motive := fun _ => Nat × St) s fun hp nx gr df => (nx, ⟨hp.set nx o, Nat.succ nx, gr, df⟩)
def St.newRow (s : St) (cells : List AV) (es : Nat) : Nat × St := s.new (.row cells es s.nx 0)

def rowOf (o : HO) : Option (List AV) := match o with
  | .row cells _ _ _ => some cells
  | _ => none
def loadCells (s : St) (b o n : Nat) : Option (List AV) := (Option.rec (motive := fun _ => _) (none) (fun ob => (Option.rec (motive := fun _ => _) (none) (fun cells => sub cells o n) (rowOf ob))) (s.hp.get b))
def loadCell (s : St) (b o : Nat) : Option AV := (Option.rec (motive := fun _ => _) (none) (fun ob => (Option.rec (motive := fun _ => _) (none) (fun cells => nth cells o) (rowOf ob))) (s.hp.get b))

def scalar (v : AV) : Bool :=
  AV.casesOn (motive_1 := fun _ => Bool) v (fun _ => true) (fun _ _ => true) (fun _ _ => true) (fun _ => true) (fun _ _ => true) (fun _ _ _ _ => true) (fun _ => true) (fun _ _ _ => true) (fun _ => false) (fun _ => false) (fun _ _ => true) (fun _ => true) (fun _ => true)
def scalars (l : List AV) : Bool := (List.rec (motive := fun _ => Bool) (true) (fun a _ ih => (Bool.rec (motive := fun _ => _) (false) (ih) (scalar a))) (l))

def storeRow (s : St) (b o : Nat) (vs cells : List AV) (es grp pos : Nat) : Option St :=
  (Option.rec (motive := fun _ => _) (none) (fun cells' =>
    some (s.withHp ((killAll b (Nat.add pos o) (Nat.add (Nat.add pos o) (lenL vs)) (members s grp) s.hp).set b (.row cells' es grp pos)))) (put cells o vs))
def storeCells (s : St) (b o : Nat) (vs : List AV) : Option St :=
  (List.rec (motive := fun _ => _) (some s) (fun _ _ _ => (Option.rec (motive := fun _ => _) (none) (fun ob => match ob with
    | .row cells es grp pos => (Bool.rec (motive := fun _ => _) (none) (storeRow s b o vs cells es grp pos) (scalars vs))
    | _ => none) (s.hp.get b))) (vs))

/-! ### Types -/
/-- the types' rows, for quick look-up -/
abbrev TT := Tr TypeInfo
section ops
variable (P : Program) (T : TT)
def undT (t : TypeId) : Option TypeDesc := (Option.rec (motive := fun _ => _) (none) (fun i => match i.desc with
    | .named _ u => (Option.rec (motive := fun _ => _) (none) (fun j => some j.desc) (T.get u))
    | d => some d) (T.get t))
def sizeT (t : TypeId) : Option Nat := (Option.rec (motive := fun _ => _) (none) (fun i => some i.size) (T.get t))
/-- is it a struct or an array? none: the type is not known -/
def aggT (t : TypeId) : Option Bool := match undT T t with
  | some (.struct _) => some true
  | some (.array _ _) => some true
  | some _ => some false
  | none => none
def zeroT (t : TypeId) : Option AV := match T.get t with
  | some i => match i.zero with
    | some z => ofValue z
    | none => none
  | none => none
/-- how a variable is read: so many cells; one cell -/
inductive VarK where
  | agg (n : Nat)
  | one
  | no
def varK (t : TypeId) : VarK := match aggT T t with
  | some true => match sizeT T t with
    | some n => .agg n
    | none => .no
  | some false => .one
  | none => .no
def loadVar (s : St) (t : TypeId) (b o : Nat) : Option AV := match varK T t with
  | .agg n => (Option.rec (motive := fun _ => _) (none) (fun cs => some (.agg cs)) (loadCells s b o n))
  | .one => loadCell s b o
  | .no => none
def partA (t : TypeId) (cs : List AV) (off : Nat) : Option AV := match varK T t with
  | .agg n => (Option.rec (motive := fun _ => _) (none) (fun l => some (.agg l)) (sub cs off n))
  | .one => nth cs off
  | .no => none

/-! ### Comparing -/
def NilK.ok : NilK → AV → Bool
  | .p, .ptr _ _ => true
  | .s, .slc _ _ _ _ => true
  | .s, .oth (.emp _ _ _ _ _) => true
  | .m, .mp _ => true
  | .f, .fn _ _ _ => true
  | _, _ => false
def isNil (k : NilK) : AV → Bool
  | .nil j => k.beq j
  | _ => false
/-- values of which one is nil -/
def eqNil (k : NilK) (x y : AV) : Option Bool :=
  cond (isNil k x) (cond (isNil k y) (some true) (cond (k.ok y) (some false) none)) (cond (k.ok x && isNil k y) (some false) none)
def eqBool : AV → AV → Option Bool
  | .bool a, .bool b => some (cond a b (!b))
  | _, _ => none
def eqInt : AV → AV → Option Bool
  | .int k a, .int j b => cond (eqK k j) (some (ieq a b)) none
  | _, _ => none
def eqStr : AV → AV → Option Bool
  | .str a, .str b => some (natsBeq a b)
  | _, _ => none
/-- as '==' compares plain values -/
def eqPlain (t : TypeId) (x y : AV) : Option Bool :=
  match undT T t with
  | some .bool => eqBool x y
  | some (.int _) => eqInt x y
  | some .string => eqStr x y
  | _ => none
def eqFields (xs ys : List AV) : List Field → Option Bool
  | [] => some true
  | f :: fs => cond (f.name == "_") none (match nth xs f.offset, nth ys f.offset with
    | some a, some b => match eqPlain T f.type a b with
      | some true => eqFields xs ys fs
      | some false => some false
      | none => none
    | _, _ => none)
def eqStruct (fields : List Field) : AV → AV → Option Bool
  | .agg xs, .agg ys => eqFields T xs ys fields
  | _, _ => none
/-- keys of a map -/
def eqKey (t : TypeId) (x y : AV) : Option Bool :=
  match undT T t with
  | some (.struct fields) => cond (P.stoodInHeld t) none (eqStruct T fields.toList x y)
  | _ => eqPlain T t x y
/-- as '==' compares; none: this executor does not know -/
def eqA (t : TypeId) (x y : AV) : Option Bool :=
  match undT T t with
  | some (.pointer _) => eqNil .p x y
  | some (.slice _) => eqNil .s x y
  | some (.map _ _) => eqNil .m x y
  | some (.func _ _ _) => eqNil .f x y
  | some .bool => eqBool x y
  | _ => none
end ops
 end
end Go.Vx
