/- The abstract executor: operations. -/
import Derived.Test.YtnccicagemmjeaaGreatDoorVx1
namespace Go.Vx
noncomputable section

/-- functions without a body that the executor knows -/
inductive Ext where
  | mapsClone
  | ret (b : Bool)

/-- What an executor is told: the program; what is known of unknown numbers; functions without a body. -/
structure Env where
  P : Program
  T : TT
  F : Tr Func
  facts : List (SE × Int × Int)
  ext : FuncId → Option Ext

section
variable (E : Env)

/-! ### Numbers -/
def lookF : List (SE × Int × Int) → SE → Option (Int × Int)
  | [], _ => none
  | (a, lo, hi) :: l, e => cond (a.beq e) (some (lo, hi)) (lookF l e)
def seOf : AV → Option (IntKind × SE)
  | .int k n => some (k, .lit n)
  | .sym k e => some (k, e)
  | _ => none
def bnd : SE → Option (Int × Int)
  | .lit n => some (n, n)
  | e => lookF E.facts e
def cmpB (op : BinOp) (a b c d : Int) : Option Bool :=
  match op with
  | .eql => cond (ilt b c || ilt d a) (some false) none
  | .neq => cond (ilt b c || ilt d a) (some true) none
  | .lss => cond (ilt b c) (some true) (cond (ile d a) (some false) none)
  | .leq => cond (ile b c) (some true) (cond (ilt d a) (some false) none)
  | .gtr => cond (ilt d a) (some true) (cond (ile b c) (some false) none)
  | .geq => cond (ile d a) (some true) (cond (ilt b c) (some false) none)
  | _ => none
def arOk : BinOp → SE → Bool
  | .add, _ | .sub, _ | .mul, _ | .and, _ | .or, _ | .xor, _ | .andNot, _ => true
  | .quo, .lit (.ofNat (Nat.succ _)) | .rem, .lit (.ofNat (Nat.succ _)) | .shl, .lit (.ofNat _) | .shr, .lit (.ofNat _) => true
  | _, _ => false
def isCmp : BinOp → Bool
  | .eql | .neq | .lss | .leq | .gtr | .geq => true
  | _ => false
def isShift : BinOp → Bool
  | .shl | .shr => true
  | _ => false
/-- where a number is not known -/
def binSym (op : BinOp) (x y : AV) : Option AV :=
  match seOf x, seOf y with
  | some (k, a), some (j, b) => cond (isCmp op)
      (cond (eqK k j) (match bnd E a, bnd E b with
        | some (p, q), some (r, s) => (cmpB op p q r s).map .bool
        | _, _ => none) none)
      (cond ((isShift op || eqK k j) && arOk op b) (some (.sym k (.ar op k a b))) none)
  | _, _ => none

def appL {α : Type} (l m : List α) : List α := (List.rec (motive := fun _ => List α) (m) (fun a _ ih => a :: ih) (l))
def strBin (op : BinOp) (x y : List Nat) : Option AV :=
  match op with
  | .add => cond (Nat.ble (Nat.add (lenL x) (lenL y)) 1048576) (some (.str (appL x y))) none
  | .eql => some (.bool (natsBeq x y))
  | .neq => some (.bool (notB (natsBeq x y)))
  | _ => none
/-- '==', '!=' on what is neither numbers nor strings -/
def binEq (op : BinOp) (t : TypeId) (x y : AV) : Option AV :=
  match op with
  | .eql => (Option.rec (motive := fun _ => _) (none) (fun b => some (.bool b)) (eqA E.T t x y))
  | .neq => (Option.rec (motive := fun _ => _) (none) (fun b => some (.bool (notB b))) (eqA E.T t x y))
  | _ => none
def strOf : AV → Option (List Nat)
  | .str l => some l
  | _ => none
def isNum : AV → Bool
  | .int _ _ => true
  | .sym _ _ => true
  | _ => false
def binRest (op : BinOp) (t : TypeId) (x y : AV) : Option AV :=
  cond (isNum x) (binSym E op x y)
    (match strOf x with
       | some a => match strOf y with
         | some b => strBin op a b
         | none => none
       | none => binEq E op t x y)

structure B2 where
  f : AV → AV → Option AV
def onInt (x : AV) (d : Option AV) (f : IntKind → Int → Option AV) : Option AV :=
  AV.casesOn (motive_1 := fun _ => Option AV) x (fun _ => d) f (fun _ _ => d) (fun _ => d) (fun _ _ => d) (fun _ _ _ _ => d) (fun _ => d) (fun _ _ _ => d) (fun _ => d) (fun _ => d) (fun _ _ => d) (fun _ => d) (fun _ => d)
def binA (op : BinOp) (t : TypeId) : B2 :=
  match cmpI op with
  | some cf => ⟨fun x y => onInt x (binRest E op t x y) fun k a =>
      onInt y (binRest E op t x y) fun j b => (Bool.rec (motive := fun _ => _) (none) (some (.bool (cf.f a b))) (eqK k j))⟩
  | none => (Bool.rec (motive := fun _ => _) (⟨fun x y => onInt x (binRest E op t x y) fun k a =>
      onInt y (binRest E op t x y) fun j b => (Bool.rec (motive := fun _ => _) (none) ((Option.rec (motive := fun _ => _) (none) (fun n => some (.int k n)) ((arI op).f k a b))) (eqK k j))⟩) (⟨fun x y => onInt x none fun k a => onInt y none fun _ b => (Option.rec (motive := fun _ => _) (none) (fun n => some (.int k n)) ((arI op).f k a b))⟩) (isShift op))

def unA (op : UnOp) (x : AV) : Option AV :=
  match op, x with
  | .neg, .int k n => some (.int k (wr k (subI 0 n)))
  | .xor, .int k n => some (.int k (backI k (Nat.xor (lowN k (cond k.signed (-1) k.max)) (lowN k n))))
  | .not, .bool b => some (.bool (notB b))
  | _, _ => none

/-! ### Strings and bytes -/
def bytesOf : List AV → Option (List Nat)
  | [] => some []
  | .int .u8 (.ofNat n) :: l => cond (Nat.ble n 255) ((Option.rec (motive := fun _ => _) (none) (fun m => some (n :: m)) (bytesOf l))) none
  | _ :: _ => none
def ofBytes : List Nat → List AV
  | [] => []
  | n :: l => .int .u8 (.ofNat n) :: ofBytes l

def natOf : AV → Option Nat
  | .int _ (.ofNat n) => some n
  | _ => none
def goIntA (n : Nat) : AV := .int .i64 (.ofNat n)

def convInt (k : IntKind) (x : AV) : Option AV :=
  match x with
  | .int _ n => some (.int k (wr k n))
  | .sym _ e => some (.sym k (.cv k e))
  | _ => none
def isU8 (t : TypeId) : Bool := match undT E.T t with
  | some (.int .u8) => true
  | _ => false
def convSlice (e : TypeId) (x : AV) (s : St) : Option (AV × St) :=
  match x with
  | .str l => cond (isU8 E e) (match s.newRow (ofBytes l) 1 with
      | (b, s') => some (.slc b 0 (lenL l) (.rest 0), s')) none
  | _ => none
def sliceU8 (t : TypeId) : Bool := match undT E.T t with
  | some (.slice e) => isU8 E e
  | _ => false
def convStr (src : TypeId) (x : AV) (s : St) : Option AV :=
  match x with
  | .slc b o n _ => cond (sliceU8 E src) ((Option.rec (motive := fun _ => _) (none) (fun cs => (Option.rec (motive := fun _ => _) (none) (fun l => some (.str l)) (bytesOf cs))) (loadCells s b o n))) none
  | .nil .s => cond (sliceU8 E src) (some (.str [])) none
  | .oth (.emp _ _ _ _ _) => cond (sliceU8 E src) (some (.str [])) none
  | _ => none
def isStrV : AV → Bool
  | .str _ => true
  | _ => false

inductive ConvK where
  | int (k : IntKind)
  | str
  | slice (e : TypeId)
  | no
def convK (src dst : TypeId) : ConvK := match undT E.T src, undT E.T dst with
  | some _, some (.int k) => .int k
  | some (.slice _), some .string => .str
  | some .string, some (.slice e) => .slice e
  | _, _ => .no

/-! ### Addresses, slices -/
def fieldOff (t : TypeId) (f : Nat) : Option Nat :=
  match undT E.T t with
  | some (.struct fields) => match fields[f]? with
    | some fl => match sizeT E.T fl.type with
      | some (Nat.succ _) => some fl.offset
      | _ => none
    | none => none
  | _ => none
def ptrOf : AV → Option (Nat × Nat)
  | .ptr b o => some (b, o)
  | _ => none
def fieldA (t : TypeId) (x : AV) (f : Nat) : Option AV :=
  match x, undT E.T t with
  | .agg cs, some (.struct fields) => match fields[f]? with
    | some fl => partA E.T fl.type cs fl.offset
    | none => none
  | _, _ => none
def onSlc (x : AV) (f : Nat → Nat → Nat → Cap → Option AV) : Option AV :=
  AV.casesOn (motive_1 := fun _ => Option AV) x (fun _ => none) (fun _ _ => none) (fun _ _ => none) (fun _ => none) (fun _ _ => none) f (fun _ => none) (fun _ _ _ => none) (fun _ => none) (fun _ => none) (fun _ _ => none) (fun _ => none) (fun _ => none)
def onPtr {β : Type} (d : β) (x : AV) (f : Nat → Nat → β) : β :=
  AV.casesOn (motive_1 := fun _ => β) x (fun _ => d) (fun _ _ => d) (fun _ _ => d) (fun _ => d) f (fun _ _ _ _ => d) (fun _ => d) (fun _ _ _ => d) (fun _ => d) (fun _ => d) (fun _ _ => d) (fun _ => d) (fun _ => d)
def onNat (x : AV) (f : Nat → Option AV) : Option AV := onInt x none fun _ n => Int.casesOn (motive := fun _ => Option AV) n f (fun _ => none)
/-- the elements' size -/
def sliceZ (t : TypeId) : Option Nat := match undT E.T t with
  | some (.slice e) => sizeT E.T e
  | _ => none
def indexAddrA (t : TypeId) : B2 :=
  match sliceZ E t with
  | some z => ⟨fun x i => onNat i fun n => onSlc x fun b o len _ => (Bool.rec (motive := fun _ => _) (none) (some (.ptr b (Nat.add o (Nat.mul n z)))) (Nat.ble (Nat.succ n) len))⟩
  | none => ⟨fun _ _ => none⟩
def isStrT (t : TypeId) : Bool := match undT E.T t with
  | some .string => true
  | _ => false
def indexA (t : TypeId) (x i : AV) : Option AV :=
  match natOf i with
  | some n => (Option.rec (motive := fun _ => _) (none) (fun l => (Option.rec (motive := fun _ => _) (none) (fun c => (Bool.rec (motive := fun _ => _) (none) (some (.int .u8 (.ofNat c))) (isStrT E t))) (nth l n))) (strOf x))
  | none => none

/-- the elements that a row surely has, from its begin on -/
def rowLen (s : St) (b z : Nat) : Nat := match s.obj b with
  | .row cells es _ _ => (Bool.rec (motive := fun _ => _) (0) (Nat.div (lenL cells) z) (Nat.beq es z))
  | _ => 0
def natO : Option AV → Nat → Option Nat
  | none, d => some d
  | some v, _ => natOf v
def sliceNil (lo hi mx : Option AV) : Option AV :=
  match natO mx 0, natO hi 0, natO lo 0 with
  | some 0, some 0, some 0 => some (.nil .s)
  | _, _, _ => none
/-- of m places, of which h are told, from a on -/
def cut (b o z a h m : Nat) : AV := .slc b (cond (Nat.beq m a) o (Nat.add o (Nat.mul a z))) (Nat.sub h a) (.exact (Nat.sub m a))
def sliceExact (b o n z k : Nat) (lo hi mx : Option AV) : Option AV :=
  match natO mx k, natO hi n, natO lo 0 with
  | some m, some h, some a => cond (Nat.ble a h && Nat.ble h m && Nat.ble m k) (some (cut b o z a h m)) none
  | _, _, _ => none
def sliceRest (b o n z d : Nat) (lo hi mx : Option AV) (s : St) : Option AV :=
  match natO hi n, natO lo 0 with
  | some h, some a => cond (Nat.beq o (Nat.mul d z) && Nat.ble a h && Nat.ble h (Nat.sub (rowLen s b z) d))
    (match mx with
     | none => cond (Nat.ble (Nat.succ a) (Nat.sub (rowLen s b z) d)) (some (.slc b (Nat.add o (Nat.mul a z)) (Nat.sub h a) (.rest (Nat.add d a)))) (some (.oth (.emp b o d a z)))
     | some mv => match natOf mv with
       | some m => cond (Nat.ble h m && Nat.ble m (Nat.sub (rowLen s b z) d)) (some (cut b o z a h m)) none
       | none => none) none
  | _, _ => none
def sliceA (t : TypeId) (x : AV) (lo hi mx : Option AV) (s : St) : Option AV :=
  match sliceZ E t with
  | some (Nat.succ z) => match x with
    | .nil .s => sliceNil lo hi mx
    | .slc b o n c => match c with
      | .exact k => sliceExact b o n (Nat.succ z) k lo hi mx
      | .rest d => sliceRest b o n (Nat.succ z) d lo hi mx s
    | _ => none
  | _ => none

def repL {α : Type} (x : List α) : Nat → List α
  | 0 => []
  | n + 1 => appL x (repL x n)
/-- the cells of one element, and how many they are (not none) -/
def elemZ (e : TypeId) : Option (Nat × List AV) :=
  match sizeT E.T e, zeroT E.T e with
  | some (Nat.succ z'), some z => cond (Nat.beq (lenL z.cells) (Nat.succ z') && scalars z.cells) (some (Nat.succ z', z.cells)) none
  | _, _ => none
def sliceElem (t : TypeId) : Option TypeId := match undT E.T t with
  | some (.slice e) => some e
  | _ => none
/-! ### Built values -/
def fillA (place : Nat → Option (Nat × Nat)) (cells : List AV) : List (Nat × AV) → Option (List AV)
  | [] => some cells
  | (i, v) :: rest => match place i with
    | none => none
    | some (off, size) => cond (Nat.beq (lenL v.cells) size) (match put cells off v.cells with
        | some c => fillA place c rest
        | none => none) none
def placesOf : List Field → Option (List (Nat × Nat))
  | [] => some []
  | f :: fs => match sizeT E.T f.type, placesOf fs with
    | some n, some l => some ((f.offset, n) :: l)
    | _, _ => none
/-- what a struct is built with: the cells of its zero value, the places of its fields -/
def buildK (t : TypeId) : Option (List AV × List (Nat × Nat)) := match undT E.T t, zeroT E.T t with
  | some (.struct fields), some (.agg z) => (placesOf E fields.toList).map (z, ·)
  | _, _ => none
def sliceEZ (t : TypeId) : Option (Nat × List AV) := match sliceElem E t with
  | some e => elemZ E e
  | none => none
def buildSliceA (z : Nat) (zs : List AV) (len : Nat) (parts : List (Nat × AV)) (s : St) : Option (AV × St) :=
  match fillA (fun i => some (Nat.mul i z, z)) (repL zs len) parts with
  | some cells => (Bool.rec (motive := fun _ => _) (none) (match s.newRow cells z with
    | (b, s') => some (.slc b 0 len (.exact len), s')) (scalars cells))
  | none => none

/-! ### append -/
def firstCells (s : St) (z n : Nat) : AV → Option (List AV)
  | .slc b o _ _ => loadCells s b o (Nat.mul n z)
  | .nil .s => some []
  | .oth (.emp _ _ _ _ _) => some []
  | .str l => some (ofBytes l)
  | _ => none
def lenOfA : AV → Option Nat
  | .slc _ _ n _ => some n
  | .nil .s => some 0
  | .oth (.emp _ _ _ _ _) => some 0
  | .str l => some (lenL l)
  | _ => none
def appendNew (s : St) (z need : Nat) (cells : List AV) : AV × St :=
  match s.newRow cells z with
  | (b, s') => (.slc b 0 need (.rest 0), s')
/-- elements stored behind a slice, in its row -/
def appendIn (s : St) (b o len z n : Nat) (c : Cap) (new : List AV) : Option (AV × St) :=
  (Option.rec (motive := fun _ => _) (none) (fun s' => some (.slc b o (Nat.add len n) c, s')) (storeCells s b (Nat.add o (Nat.mul len z)) new))
/-- an append that may grow or not: a new row of the same group; whoever may lie beneath the new cells is dead -/
def appendMay (s : St) (_b o len z n : Nat) (old new : List AV) (es grp pos : Nat) : AV × St :=
  match s with
  | ⟨hp, nx, gr, df⟩ => (.slc nx 0 (Nat.add len n) (.rest 0),
      ⟨(killAll nx (Nat.add pos (Nat.add o (Nat.mul len z))) (Nat.add (Nat.add pos (Nat.add o (Nat.mul len z))) (lenL new)) (members s grp) hp).set nx (.row (appL old new) es grp (Nat.add pos o)),
        Nat.succ nx, gr.set grp (nx :: members s grp), df⟩)
def appendRest (s : St) (b o len z n d : Nat) (old new : List AV) : Option (AV × St) :=
  match s.obj b with
    | .row cells es grp pos => (Bool.rec (motive := fun _ => _) (none) ((Bool.rec (motive := fun _ => _) (none) ((Bool.rec (motive := fun _ => _) (some (appendMay s b o len z n old new es grp pos)) (appendIn s b o len z n (.rest d) new) (Nat.ble (Nat.add o (Nat.mul (Nat.add len n) z)) (lenL cells)))) (Nat.beq o (Nat.mul d z) && Nat.ble o (lenL cells)))) (Nat.beq es z))
    | _ => none
def appendSlc (z n : Nat) (new : List AV) (b o len : Nat) (c : Cap) (s : St) : Option (AV × St) :=
  (Option.rec (motive := fun _ => _) (none) (fun old => match c with
    | .exact k => (Bool.rec (motive := fun _ => _) (some (appendNew s z (Nat.add len n) (appL old new))) (appendIn s b o len z n c new) (Nat.ble (Nat.add len n) k))
    | .rest d => appendRest s b o len z n d old new) (loadCells s b o (Nat.mul len z)))
/-- behind a slice n elements more, whose cells are given -/
def appendN (z n : Nat) (new : List AV) (x : AV) (s : St) : Option (AV × St) :=
  (Bool.rec (motive := fun _ => _) (none) ((Bool.rec (motive := fun _ => _) (none) ((Bool.rec (motive := fun _ => _) (none) (match x with
    | .nil .s => (Bool.rec (motive := fun _ => _) (some (appendNew s z n new)) (some (.nil .s, s)) (Nat.beq n 0))
    | .slc b o len c => (Bool.rec (motive := fun _ => _) (none) (appendSlc z n new b o len c s) (Nat.ble len 1048576))
    | _ => none) (scalars new))) (Nat.ble n 1048576))) (Nat.beq (lenL new) (Nat.mul n z)))
/-- what an append needs of its type: the size of an element (not none), the cells of its zero value -/
def appK (t : TypeId) : Option (Nat × List AV) := match sliceElem E t with
  | some e => match E.T.get e with
    | some i => cond (Nat.ble i.bytes 1048576) (elemZ E e) none
    | none => none
  | none => none
def appendA (z : Nat) (x y : AV) (s : St) : Option (AV × St) :=
  (Option.rec (motive := fun _ => _) (none) (fun n => (Option.rec (motive := fun _ => _) (none) (fun new => appendN z n new x s) (firstCells s z n y))) (lenOfA y))
def appendZ (z : Nat) (zs : List AV) (x y : AV) (s : St) : Option (AV × St) :=
  (Option.rec (motive := fun _ => _) (none) (fun n => (Bool.rec (motive := fun _ => _) (none) ((Bool.rec (motive := fun _ => _) (none) (appendN z n (repL zs n) x s) (Nat.ble 1 n))) (Nat.ble n 1048576))) (natOf y))

/-! ### Maps -/
def findK (kt : TypeId) (k : AV) : List ME → Nat → Option (Option (Nat × AV))
  | [], _ => some none
  | e :: l, i => match eqKey E.P E.T kt k e.key with
    | some true => some (some (i, e.val))
    | some false => findK kt k l (Nat.succ i)
    | none => none
def plainT (t : TypeId) : Bool := match undT E.T t with
  | some (.int _) | some .string | some .bool => true
  | _ => false
/-- a key that is whole numbers and strings all through -/
def fieldsOk (cs : List AV) : List Field → Bool
  | [] => true
  | f :: fs => f.name != "_" && plainT E f.type && (Option.rec (motive := fun _ => _) (false) (fun _ => true) (nth cs f.offset)) && fieldsOk cs fs
def keyOk (kt : TypeId) (k : AV) : Bool :=
  match k with
  | .agg cs => match undT E.T kt with
    | some (.struct fields) => fieldsOk E cs fields.toList
    | _ => false
  | .int _ _ => plainT E kt
  | .str _ => plainT E kt
  | .bool _ => plainT E kt
  | _ => false
def mapOf (s : St) : AV → Option (List ME)
  | .nil .m => some []
  | .mp r => match s.obj r with
    | .mapo es _ => some es
    | _ => none
  | _ => none
def okPair (ok : Bool) (v : AV) (t : Bool) : AV := cond ok (.tup [v, .bool t]) v
def lookupA (t : TypeId) (x i : AV) (ok : Bool) (s : St) : Option AV :=
  match undT E.T t with
  | some (.map kt et) => match mapOf s x with
    | some es => cond (keyOk E kt i) (match findK E kt i es 0 with
      | some (some (_, v)) => some (okPair ok v true)
      | some none => (zeroT E.T et).map fun z => okPair ok z false
      | none => none) none
    | none => none
  | _ => none
def modAt {α : Type} (f : α → α) : List α → Nat → List α
  | [], _ => []
  | a :: l, n => cond (Nat.beq n 0) (f a :: l) (a :: modAt f l (Nat.sub n 1))
def mapObj (s : St) : AV → Option (Nat × List ME × Nat)
  | .mp r => match s.obj r with
    | .mapo es clock => some (r, es, clock)
    | _ => none
  | _ => none
def St.setO (s : St) (r : Nat) (o : HO) : St := match s with
  | ⟨hp, nx, gr, df⟩ => ⟨hp.set r o, nx, gr, df⟩
def mapPut (t : TypeId) (m k v : AV) (s : St) : Option St :=
  match undT E.T t with
  | some (.map kt _) => match mapObj s m with
    | some (r, es, clock) => cond (keyOk E kt k) (match findK E kt k es 0 with
      | some (some (i, _)) => match nth es i with
        | some e => cond (k.beq e.key) (some (s.setO r (.mapo (modAt (fun e => { e with key := k, val := v }) es i) clock))) none
        | none => none
      | some none => some (s.setO r (.mapo (appL es [{ key := k, val := v, born := clock }]) (Nat.succ clock)))
      | none => none) none
    | none => none
  | _ => none
def mapEntryA (t : TypeId) (m k : AV) (s : St) : Option (AV × St) :=
  match undT E.T t with
  | some (.map kt et) => match mapObj s m with
    | some (r, es, clock) => cond (keyOk E kt k) (match findK E kt k es 0 with
      | some (some (i, v)) => match nth es i with
        | some e => cond (k.beq e.key) (some (.tup [v, goIntA e.born], s.setO r (.mapo (modAt (fun e => { e with key := k }) es i) clock))) none
        | none => none
      | some none => match zeroT E.T et with
        | some z => some (.tup [z, goIntA clock], s.setO r (.mapo (appL es [{ key := k, val := z, born := clock }]) (Nat.succ clock)))
        | none => none
      | none => none) none
    | none => none
  | _ => none
def findBorn : List ME → Nat → Nat → Option Nat
  | [], _, _ => none
  | e :: l, b, i => cond (Nat.beq e.born b) (some i) (findBorn l b (Nat.succ i))
def entryStoreA (m st v : AV) (s : St) : Option St :=
  match mapObj s m, natOf st with
  | some (r, es, clock), some b => match findBorn es b 0 with
    | some i => some (s.setO r (.mapo (modAt (fun e => { e with val := v }) es i) clock))
    | none => none
  | _, _ => none
def clearA (zs : List AV) (x : AV) (s : St) : Option St :=
  match x with
  | .slc b o n _ => (Bool.rec (motive := fun _ => _) (none) (storeCells s b o (repL zs n)) (Nat.ble 1 n))
  | _ => none
def newPtr (s : St) (o : HO) : Option (AV × St) := match s.new o with
  | (b, s') => some (.ptr b 0, s')
def rangeA (t : TypeId) (x : AV) (s : St) : Option (AV × St) :=
  match undT E.T t with
  | some (.map _ _) => match x with
    | .nil .m => newPtr s (.mit none 0 [] 0)
    | .mp r => match s.obj r with
      | .mapo _ clock => newPtr s (.mit (some r) clock [] clock)
      | _ => none
    | _ => none
  | _ => none
def memN : Nat → List Nat → Bool
  | _, [] => false
  | n, m :: l => Nat.beq n m || memN n l
def unseen (seen : List Nat) : List ME → List ME
  | [] => []
  | e :: l => cond (memN e.born seen) (unseen seen l) (e :: unseen seen l)
def lastN : List Nat → Option Nat
  | [] => none
  | [a] => some a
  | _ :: b :: l => lastN (b :: l)
def atBorn : List ME → Nat → Option ME
  | [], _ => none
  | e :: l, b => cond (Nat.beq e.born b) (some e) (atBorn l b)
def entryA (it : AV) (s : St) : Option AV :=
  match it with
  | .ptr r 0 => match s.obj r with
    | .mit (some m) _ seen last => match lastN seen, s.obj m with
      | some b, .mapo es clock => cond (Nat.beq clock last) ((atBorn es b).map fun e => .tup [e.key, e.val]) none
      | _, _ => none
    | _ => none
  | _ => none
def bornOk (since : Nat) : List ME → Bool
  | [] => true
  | e :: l => Nat.ble (Nat.succ e.born) since && bornOk since l
def nextMap (r m since : Nat) (seen : List Nat) (s : St) : Option (AV × St) :=
  match s.obj m with
  | .mapo es clock => cond (Nat.beq clock since && bornOk since es) (match unseen seen es with
    | [] => some (.tup [.bool false], s)
    | [e] => some (.tup [.bool true, e.key, e.val], s.setO r (.mit (some m) since (appL seen [e.born]) clock))
    | _ => none) none
  | _ => none
def nextA (it : AV) (isStr : Bool) (s : St) : Option (AV × St) :=
  match it with
  | .ptr r 0 => match s.obj r with
    | .mit none _ _ _ => cond isStr none (some (.tup [.bool false], s))
    | .mit (some m) since seen last => cond (isStr || Nat.ble (Nat.succ last) since) none (nextMap r m since seen s)
    | _ => none
  | _ => none
 end
 end
end Go.Vx
