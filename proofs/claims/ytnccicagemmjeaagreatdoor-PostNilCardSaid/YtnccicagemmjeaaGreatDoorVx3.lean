/- The abstract executor: operations one by one, regions, code, calls. Each piece of code is turned into a function of the state once; the kernel keeps it. What an operation of a region makes for that region alone is held in a short list; what other regions read, in a trie. -/
import Derived.Test.YtnccicagemmjeaaGreatDoorVx2
namespace Go.Vx
noncomputable section

abbrev Tm := Tr AV
/-- what a piece of code comes to -/
inductive Out where
  | fail
  | normal (t : Tm) (s : St)
  | exit (id : Nat) (t : Tm) (s : St)
  | goto (l : Nat) (t : Tm) (s : St)
  | ret (t : Tm) (s : St)
/-- a call's answer -/
inductive CR where
  | fail
  | ok (v : AV) (s : St)

structure EvR where
  f : List AV → Tm → AV
structure EvL where
  f : List AV → Tm → List AV
structure EvP where
  f : List AV → Tm → List (Nat × AV)
structure EvM where
  f : List AV → Tm → Option AV
/-- the two ways in which code reaches other code: a call; a round of a loop over a function -/
structure Way where
  call : FuncId → List AV → St → CR
  rnd : Nat → List AV → St → CR
structure ORun where
  f : Way → List AV → Tm → St → (AV → St → Out) → Out
structure CRun where
  f : Way → Tm → St → (Tm → St → Out) → Out

def bit (m i : Nat) : Bool := Nat.beq (Nat.mod (Nat.shiftRight m i) 2) 1
structure GP where
  f : Tm → Option AV
def getP (f : Nat) : Nat → GP :=
  Nat.rec (motive := fun _ => Nat → GP) (fun _ => ⟨fun _ => none⟩)
    (fun _ ih m => (Bool.rec (motive := fun _ => _) ((Bool.rec (motive := fun _ => _) (⟨fun t => (Tr.rec (motive := fun _ => _) (none) (fun _ _ r _ _ => (ih (Nat.div m 2)).f r) (t))⟩) (⟨fun t => (Tr.rec (motive := fun _ => _) (none) (fun l _ _ _ _ => (ih (Nat.div m 2)).f l) (t))⟩) (Nat.beq (Nat.mod m 2) 0))) (⟨fun t => (Tr.rec (motive := fun _ => _) (none) (fun _ v _ _ _ => v) (t))⟩) (Nat.ble m 1))) f
def getG (t : Nat) : GP := getP (Nat.succ (Nat.log2 (Nat.succ t))) (Nat.succ t)
def idxOf (l : List Nat) (t i : Nat) : Option Nat := (List.rec (motive := fun _ => Nat → Option Nat) (fun _ => none) (fun d _ ih i => (Bool.rec (motive := fun _ => _) (ih (Nat.succ i)) (some i) (Nat.beq d t))) (l)) i

section
variable (E : Env)

/-- where temporaries lie: those that other regions read; those of this region, the youngest first -/
structure Cx where
  G : Nat
  ds : List Nat

section
variable (c : Cx)
def ev (x : Operand) : EvR := match x with
  | .tmp t => cond (bit c.G t) ⟨fun _ tm => (Option.rec (motive := fun _ => _) (undefA) (fun v => v) ((getG t).f tm))⟩ (match idxOf c.ds t 0 with
    | some i => ⟨fun l _ => (Option.rec (motive := fun _ => _) (undefA) (fun v => v) (nth l i))⟩
    | none => ⟨fun _ _ => undefA⟩)
  | .const v => match ofValue v with
    | some a => ⟨fun _ _ => a⟩
    | none => ⟨fun _ _ => undefA⟩
  | .global g => ⟨fun _ _ => .ptr g 0⟩
  | .func f => ⟨fun _ _ => .fn (.func f) [] []⟩
def evL (l : List Operand) : EvL := (List.rec (motive := fun _ => EvL) (⟨fun _ _ => []⟩) (fun x _ ih => ⟨fun lc tm => (ev c x).f lc tm :: ih.f lc tm⟩) (l))
def evP : List (Nat × Operand) → EvP
  | [] => ⟨fun _ _ => []⟩
  | (i, x) :: l => ⟨fun lc tm => (i, (ev c x).f lc tm) :: (evP l).f lc tm⟩
def evM : Option Operand → EvM
  | none => ⟨fun _ _ => none⟩
  | some x => ⟨fun lc tm => some ((ev c x).f lc tm)⟩
def okO (x : Operand) : Bool := match x with
  | .const v => (Option.rec (motive := fun _ => _) (false) (fun _ => true) (ofValue v))
  | .tmp t => (Bool.rec (motive := fun _ => _) ((Option.rec (motive := fun _ => _) (false) (fun _ => true) (idxOf c.ds t 0))) (true) (bit c.G t))
  | .global _ => false
  | .func _ => true
def okOs (l : List Operand) : Bool := (List.rec (motive := fun _ => Bool) (true) (fun x _ ih => (Bool.rec (motive := fun _ => _) (false) (ih) (okO c x))) (l))

def optL : Option Operand → List Operand → List Operand
  | none, l => l
  | some x, l => x :: l
def partL : List (Nat × Operand) → List Operand
  | [] => []
  | p :: l => p.2 :: partL l
/-- the operands of an operation -/
def opL (o : Op) : List Operand :=
  match o with
  | .move x | .assign x | .box _ x | .load _ x | .nilCheck x | .unOp _ _ x | .convert _ _ x | .makeInterface _ x | .fieldAddr _ x _ | .field _ x _ | .range _ x | .next x _ | .entry x | .typeAssert x _ _ _ | .extract x _ => [x]
  | .pick c a b => [c, a, b]
  | .build _ ps | .buildSlice _ _ ps => partL ps.toList
  | .store _ a v | .binOp _ _ a v _ | .indexAddr _ a v | .index _ a v | .lookup _ a v _ | .mapEntry _ a v => [a, v]
  | .makeFunc _ first captured => appL first.toList captured.toList
  | .makeMap _ r => optL r []
  | .slice _ x l h m => x :: optL l (optL h (optL m []))
  | .mapUpdate _ m k v | .entryStore _ m k v | .insert _ m k v => [m, k, v]
  | .call c => match c.callee with
    | .value f => f :: c.args.toList
    | _ => c.args.toList
  | _ => []

def failO : ORun := ⟨fun _ _ _ _ _ => .fail⟩
/-- an operation that reads, and has a value -/
def vO (vf : List AV → Tm → St → Option AV) : ORun := ⟨fun _ l t s k => (Option.rec (motive := fun _ => _) (.fail) (fun v => k v s) (vf l t s))⟩
/-- an operation that turns the heap, and has a value -/
def sO (sf : List AV → Tm → St → Option (AV × St)) : ORun := ⟨fun _ l t s k => (Option.rec (motive := fun _ => _) (.fail) (fun p => Prod.rec (motive := fun _ => Out) k p) (sf l t s))⟩
/-- an operation that turns the heap, and has none -/
def uO (uf : List AV → Tm → St → Option St) : ORun := ⟨fun _ l t s k => (Option.rec (motive := fun _ => _) (.fail) (fun s' => k undefA s') (uf l t s))⟩

def fnOk : Fn → Bool
  | .func _ => true
  | _ => false

/-- a function that is to be entered, or one that has no body and is known -/
inductive FnK where
  | body
  | clone
  | ret (b : Bool)
  | no
def fnK (f : FuncId) : FnK := match E.F.get f with
  | some fn => match fn.body with
    | some _ => match E.ext f with
      | some (.ret b) => .ret b
      | _ => .body
    | none => match E.ext f with
      | some .mapsClone => .clone
      | _ => .no
  | none => .no
def cloneA (args : List AV) (s : St) : Option (AV × St) := match args with
  | [.ifc t (.mp r)] => match s.obj r with
    | .mapo es clock => match s.new (.mapo es clock) with
      | (b, s') => some (.ifc t (.mp b), s')
    | _ => none
  | _ => none
/-- behind a call: the frame's own marks again -/
def afterC (s : St) (r : CR) (k : AV → St → Out) : Out :=
  CR.rec (motive := fun _ => Out) .fail (fun v s' => St.rec (motive := fun _ => Out) (fun hp nx gr _ => k v ⟨hp, nx, gr, s.df⟩) s') r
def callFn (f : FuncId) (w : Way) (args : List AV) (s : St) (k : AV → St → Out) : Out :=
  match fnK E f with
  | .body => afterC s (w.call f args s) k
  | .clone => (Option.rec (motive := fun _ => _) (.fail) (fun p => Prod.rec (motive := fun _ => Out) k p) (cloneA args s))
  | .ret b => (List.rec (motive := fun _ => _) (k (.bool b) s) (fun _ _ _ => .fail) (args))
  | .no => .fail
def callV (v : AV) (w : Way) (args : List AV) (s : St) (k : AV → St → Out) : Out := match v with
  | .fn (.func g) first captured => callFn E g w (appL (appL first args) captured) s k
  | .oth (.yld l) => afterC s (w.rnd l args s) k
  | _ => .fail

/-- the greater, the smaller of whole numbers -/
def maxI (k : IntKind) (n : Int) : List AV → Option AV
  | [] => some (.int k n)
  | .int j m :: l => cond (eqK j k) (maxI k (cond (ilt n m) m n) l) none
  | _ :: _ => none
def minI (k : IntKind) (n : Int) : List AV → Option AV
  | [] => some (.int k n)
  | .int j m :: l => cond (eqK j k) (minI k (cond (ilt m n) m n) l) none
  | _ :: _ => none
def maxA (isMax : Bool) : List AV → Option AV
  | .int k n :: l => cond isMax (maxI k n l) (minI k n l)
  | _ => none

structure A1 where
  f : AV → St → Option AV
def lenA (t : TypeId) : A1 :=
  match undT E.T t with
  | some .string => ⟨fun x _ => match x with
    | .str l => some (goIntA (lenL l))
    | _ => none⟩
  | some (.slice _) => ⟨fun x _ => match x with
    | .slc _ _ n _ => some (goIntA n)
    | .nil .s => some (goIntA 0)
    | .oth (.emp _ _ _ _ _) => some (goIntA 0)
    | _ => none⟩
  | some (.map _ _) => ⟨fun x s => (mapOf s x).map fun es => goIntA (lenL es)⟩
  | _ => ⟨fun _ _ => none⟩
def capA (t : TypeId) (x : AV) : Option AV :=
  match undT E.T t with
  | some (.slice _) => match x with
    | .slc _ _ _ (.exact n) => some (goIntA n)
    | .nil .s => some (goIntA 0)
    | _ => none
  | _ => none
def isIntT (t : TypeId) : Bool := match undT E.T t with
  | some (.int _) => true
  | _ => false
/-- a built-in function -/
def biA (b : Builtin) (ts : List TypeId) (args : List Operand) : ORun :=
  match ts, args with
  | t :: _, [x] => match b with
    | .len => vO fun l tm s => (lenA E t).f ((ev c x).f l tm) s
    | .cap => vO fun l tm _ => capA E t ((ev c x).f l tm)
    | .clear => match sliceEZ E t with
      | some p => uO fun l tm s => clearA p.2 ((ev c x).f l tm) s
      | none => failO
    | _ => failO
  | t :: t2 :: _, [x, y] => match b with
    | .append => match appK E t, undT E.T t2 with
      | some p, some (.int _) => sO fun l tm s => appendZ p.1 p.2 ((ev c x).f l tm) ((ev c y).f l tm) s
      | some p, some _ => sO fun l tm s => appendA p.1 ((ev c x).f l tm) ((ev c y).f l tm) s
      | _, _ => failO
    | .max => vO fun l tm _ => maxA true [(ev c x).f l tm, (ev c y).f l tm]
    | .min => vO fun l tm _ => maxA false [(ev c x).f l tm, (ev c y).f l tm]
    | _ => failO
  | _, as => match b with
    | .max => vO fun l tm _ => maxA true ((evL c as).f l tm)
    | .min => vO fun l tm _ => maxA false ((evL c as).f l tm)
    | _ => failO

def callOp (cl : Call) : ORun :=
  match cl.callee with
  | .builtin b => biA E c b cl.argTypes.toList cl.args.toList
  | .value f => match f with
    | .func g => ⟨fun w l tm s k => callFn E g w ((evL c cl.args.toList).f l tm) s k⟩
    | f => ⟨fun w l tm s k => callV E ((ev c f).f l tm) w ((evL c cl.args.toList).f l tm) s k⟩
  | .invoke _ _ => failO

def newCells (n : Nat) (cells : List AV) (s : St) : Option (AV × St) :=
  match s.newRow cells n with
  | (b, s') => some (.ptr b 0, s')
def allocA (t : TypeId) : ORun := match zeroT E.T t, sizeT E.T t with
  | some z, some n => cond (Nat.beq (lenL z.cells) n && scalars z.cells) (sO fun _ _ s => newCells n z.cells s) failO
  | _, _ => failO
def boxV (n : Nat) (v : AV) (s : St) : Option (AV × St) := (Bool.rec (motive := fun _ => _) (none) (newCells n v.cells s) (Nat.beq (lenL v.cells) n && scalars v.cells))
def boxA (t : TypeId) (x : Operand) : ORun := match sizeT E.T t with
  | some n => sO fun l tm s => boxV n ((ev c x).f l tm) s
  | none => failO
def loadA (t : TypeId) (a : Operand) : ORun := match varK E.T t with
  | .agg n => vO fun l tm s => onPtr none ((ev c a).f l tm) fun b o => (Option.rec (motive := fun _ => _) (none) (fun cs => some (.agg cs)) (loadCells s b o n))
  | .one => vO fun l tm s => onPtr none ((ev c a).f l tm) fun b o => loadCell s b o
  | .no => failO
def storeV (n : Nat) (v : AV) (s : St) (b o : Nat) : Option St := (Bool.rec (motive := fun _ => _) (none) (storeCells s b o v.cells) (Nat.beq (lenL v.cells) n))
def storeA (t : TypeId) (a x : Operand) : ORun := match sizeT E.T t with
  | some n => uO fun l tm s => onPtr none ((ev c a).f l tm) fun b o => storeV n ((ev c x).f l tm) s b o
  | none => failO
def nilCheckA (v : AV) : Option AV := match v with
  | .ptr b o => some (.ptr b o)
  | _ => none
def makeIfcA (t : TypeId) (x : Operand) : ORun := match undT E.T t with
  | some (.interface _) => failO
  | some _ => vO fun l tm _ => some (.ifc t ((ev c x).f l tm))
  | none => failO
def newMap (s : St) : Option (AV × St) := match s.new (.mapo [] 0) with
  | (b, s') => some (.mp b, s')
def makeMapA (r : Option Operand) : ORun := match r with
  | none => sO fun _ _ s => newMap s
  | some _ => failO
def extractA (v : AV) (i : Nat) : Option AV := match v with
  | .tup vs => nth vs i
  | _ => none
def assertA (t : TypeId) (ok : Bool) (v : AV) : Option AV := match v with
  | .ifc u w => (Bool.rec (motive := fun _ => _) (none) (some (okPair ok w true)) (Nat.beq u t))
  | _ => none
def typeAssertA (x : Operand) (t : TypeId) (ok : Bool) : ORun := match undT E.T t with
  | some (.interface _) => failO
  | some _ => vO fun l tm _ => assertA t ok ((ev c x).f l tm)
  | none => failO
def fieldAddrA (t : TypeId) (x : Operand) (f : Nat) : ORun := match fieldOff E t f with
  | some d => vO fun l tm _ => onPtr none ((ev c x).f l tm) fun b o => some (.ptr b (Nat.add o d))
  | none => failO
def convA (src dst : TypeId) (x : Operand) : ORun := match convK E src dst with
  | .int k => vO fun l tm _ => convInt k ((ev c x).f l tm)
  | .str => vO fun l tm s => convStr E src ((ev c x).f l tm) s
  | .slice e => sO fun l tm s => convSlice E e ((ev c x).f l tm) s
  | .no => failO
def boolOf : AV → Option Bool
  | .bool b => some b
  | _ => none
def hop (o : Op) : ORun :=
  match o with
  | .move x => vO fun l tm _ => some ((ev c x).f l tm)
  | .assign x => vO fun l tm _ => some ((ev c x).f l tm)
  | .pick x a b => vO fun l tm _ => (Option.rec (motive := fun _ => _) (none) (fun t => (Bool.rec (motive := fun _ => _) (some ((ev c b).f l tm)) (some ((ev c a).f l tm)) (t))) (boolOf ((ev c x).f l tm)))
  | .alloc t => allocA E t
  | .box t x => boxA E c t x
  | .build t parts => match buildK E t with
    | some p => vO fun l tm _ => (Option.rec (motive := fun _ => _) (none) (fun cs => some (.agg cs)) (fillA (nth p.2) p.1 ((evP c parts.toList).f l tm)))
    | none => failO
  | .buildSlice t len parts => match sliceEZ E t with
    | some p => cond (Nat.ble (Nat.mul len p.1) 16777216) (sO fun l tm s => buildSliceA p.1 p.2 len ((evP c parts.toList).f l tm) s) failO
    | none => failO
  | .load t a => loadA E c t a
  | .store t a x => storeA E c t a x
  | .nilCheck x => vO fun l tm _ => nilCheckA ((ev c x).f l tm)
  | .binOp op t x y _ => vO fun l tm _ => (binA E op t).f ((ev c x).f l tm) ((ev c y).f l tm)
  | .unOp op _ x => vO fun l tm _ => unA op ((ev c x).f l tm)
  | .convert src dst x => convA E c src dst x
  | .makeInterface t x => makeIfcA E c t x
  | .makeFunc f first captured => cond (fnOk f) (vO fun l tm _ => some (.fn f ((evL c first.toList).f l tm) ((evL c captured.toList).f l tm))) failO
  | .makeMap _t r => makeMapA r
  | .slice t x lo hi mx => match hi, mx with
    | none, some _ => failO
    | _, _ => vO fun l tm s => sliceA E t ((ev c x).f l tm) ((evM c lo).f l tm) ((evM c hi).f l tm) ((evM c mx).f l tm) s
  | .fieldAddr t x f => fieldAddrA E c t x f
  | .field t x f => vO fun l tm _ => fieldA E t ((ev c x).f l tm) f
  | .indexAddr t x i => vO fun l tm _ => (indexAddrA E t).f ((ev c x).f l tm) ((ev c i).f l tm)
  | .index t x i => vO fun l tm _ => indexA E t ((ev c x).f l tm) ((ev c i).f l tm)
  | .lookup t x i ok => vO fun l tm s => lookupA E t ((ev c x).f l tm) ((ev c i).f l tm) ok s
  | .mapUpdate t m k v => uO fun l tm s => mapPut E t ((ev c m).f l tm) ((ev c k).f l tm) ((ev c v).f l tm) s
  | .insert t m k v => uO fun l tm s => mapPut E t ((ev c m).f l tm) ((ev c k).f l tm) ((ev c v).f l tm) s
  | .mapEntry t m k => sO fun l tm s => mapEntryA E t ((ev c m).f l tm) ((ev c k).f l tm) s
  | .entryStore _ m st v => uO fun l tm s => entryStoreA ((ev c m).f l tm) ((ev c st).f l tm) ((ev c v).f l tm) s
  | .range t x => sO fun l tm s => rangeA E t ((ev c x).f l tm) s
  | .next it isStr => sO fun l tm s => nextA ((ev c it).f l tm) isStr s
  | .entry it => vO fun l tm s => entryA ((ev c it).f l tm) s
  | .extract x i => vO fun l tm _ => extractA ((ev c x).f l tm) i
  | .typeAssert x _ t ok => typeAssertA E c x t ok
  | .call cl => callOp E c cl
  | _ => failO

/-! ### One operation -/
def yes (want : Bool) (v : AV) : Bool := match v with
  | .bool b => cond b want (!want)
  | _ => false
structure Want where
  f : List AV → Tm → Bool
/-- is an operation asked for? -/
def wantedA (ops : List Oper) (o : Oper) : Want :=
  match o.guard with
  | none => ⟨fun _ _ => true⟩
  | some (j, want) => match nth ops j with
    | some p => match p.dst with
      | some d => ⟨fun l tm => yes want ((ev c (.tmp d)).f l tm)⟩
      | none => ⟨fun _ _ => false⟩
    | none => ⟨fun _ _ => false⟩
def okGuard (ops : List Oper) (o : Oper) : Bool :=
  match o.guard with
  | none => true
  | some (j, _) => match nth ops j with
    | some p => match p.dst with
      | some d => okO c (.tmp d)
      | none => true
    | none => true
def stepG (ops : List Oper) (o : Oper) : ORun :=
  cond (okOs c (opL o.op) && okGuard c ops o) (match o.guard with
    | none => hop E c o.op
    | some _ => ⟨fun w l tm s k => (Bool.rec (motive := fun _ => _) (k undefA s) ((hop E c o.op).f w l tm s k) ((wantedA c ops o).f l tm))⟩) failO
 end

/-- where a result goes -/
inductive Slot where
  | no
  | loc (d : Nat)
  | glb (d : Nat)
  | bad
def slotOf (c : Cx) (N : Nat) (dst : Option Tmp) : Slot :=
  (Option.rec (motive := fun _ => _) (.no) (fun d => (Bool.rec (motive := fun _ => _) (.bad) ((Option.rec (motive := fun _ => _) ((Bool.rec (motive := fun _ => _) (.loc d) (.glb d) (bit c.G d))) (fun _ => .bad) (idxOf c.ds d 0))) (Nat.ble (Nat.succ d) N))) (dst))
structure RRun where
  f : Way → List AV → Tm → St → (Tm → St → Out) → Out
def runO (o : ORun) (sl : Slot) (next : RRun) : RRun := match sl with
  | .no => ⟨fun w l tm s k => o.f w l tm s fun _ s' => next.f w l tm s' k⟩
  | .loc _ => ⟨fun w l tm s k => o.f w l tm s fun v s' => next.f w (v :: l) tm s' k⟩
  | .glb d => ⟨fun w l tm s k => o.f w l tm s fun v s' => next.f w l (tm.set d v) s' k⟩
  | .bad => ⟨fun _ _ _ _ _ => .fail⟩
def cxOf (c : Cx) (sl : Slot) : Cx := match sl with
  | .loc d => ⟨c.G, d :: c.ds⟩
  | _ => c
def runAll (N : Nat) (all : List Oper) : List Oper → Cx → RRun
  | [], _ => ⟨fun _ _ tm s k => k tm s⟩
  | o :: l, c => runO (stepG E c all o) (slotOf c N o.dst) (runAll N all l (cxOf c (slotOf c N o.dst)))

/-! ### Regions that draw their order -/
def isE : Op → Bool
  | .move _ | .assign _ | .pick _ _ _ | .alloc _ | .box _ _ | .build _ _ | .buildSlice _ _ _ | .load _ _ | .nilCheck _ | .binOp _ _ _ _ _ | .unOp _ _ _ | .convert _ _ _
  | .makeInterface _ _ | .makeFunc _ _ _ | .makeMap _ _ | .slice _ _ _ _ _ | .fieldAddr _ _ _ | .field _ _ _ | .indexAddr _ _ _ | .index _ _ _ | .lookup _ _ _ _
  | .extract _ _ | .typeAssert _ _ _ _ => false
  | .call c => match c.callee with
    | .builtin .len | .builtin .cap | .builtin .max | .builtin .min | .builtin .real | .builtin .imag | .builtin .complex => false
    | _ => true
  | _ => true
def bind1 (e : Edge) : Bool := match e.ground with
  | .textOnly _ | .gcOnly _ => false
  | _ => true
def ancOf (acc : List Nat) : List Edge → Nat
  | [] => 0
  | e :: l => cond (bind1 e) (Nat.lor (Nat.lor (Nat.shiftLeft 1 e.on) ((nth acc e.on).getD 0)) (ancOf acc l)) (ancOf acc l)
def ancL : List Oper → List Nat → List Nat
  | [], acc => acc
  | o :: l, acc => ancL l (appL acc [ancOf acc o.after.toList])
def emit (m : Nat) : Nat → Nat → List Nat
  | 0, _ => []
  | n + 1, i => cond (bit m i) (i :: emit m n (Nat.succ i)) (emit m n (Nat.succ i))
/-- each effect as soon as it can be, then the rest -/
def planGo (anc : List Nat) (n : Nat) : List Oper → Nat → Nat → List Nat
  | [], _, done => emit (Nat.sub (Nat.sub (Nat.shiftLeft 1 n) 1) done) n 0
  | o :: l, i, done => cond (isE o.op)
      (appL (emit (Nat.sub ((nth anc i).getD 0) (Nat.land ((nth anc i).getD 0) done)) n 0)
        (i :: planGo anc n l (Nat.succ i) (Nat.lor (Nat.lor done ((nth anc i).getD 0)) (Nat.shiftLeft 1 i))))
      (planGo anc n l (Nat.succ i) done)
def planOf (ops : List Oper) : List Nat := planGo (ancL ops []) (lenL ops) ops 0 0

inductive Foot where
  | cells (b o n : Nat)
  | look (t : TypeId) (m k : AV) (ok : Bool)
  | len (r : Nat)
  | row (b : Nat)
structure FootR where
  f : List AV → Tm → Option (List Foot)
def footOf (c : Cx) (o : Op) : FootR :=
  match o with
  | .load t a => match varK E.T t with
    | .agg n => ⟨fun l tm => onPtr none ((ev c a).f l tm) fun b o => some [.cells b o n]⟩
    | .one => ⟨fun l tm => onPtr none ((ev c a).f l tm) fun b o => some [.cells b o 1]⟩
    | .no => ⟨fun _ _ => none⟩
  | .lookup t x i ok => ⟨fun l tm => some [.look t ((ev c x).f l tm) ((ev c i).f l tm) ok]⟩
  | .convert _ _ x => ⟨fun l tm => match (ev c x).f l tm with
    | .slc b o n _ => some [.cells b o n]
    | _ => some []⟩
  | .call cl => ⟨fun l tm => match (evL c cl.args.toList).f l tm with
    | [.mp r] => some [.len r]
    | _ => some []⟩
  | .slice _ x _ _ _ => ⟨fun l tm => match (ev c x).f l tm with
    | .slc b _ _ (.rest _) => some [.row b]
    | _ => some []⟩
  | _ => ⟨fun _ _ => some []⟩
/-- is a place's name outside? -/
def outB (lo hi b : Nat) : Bool := Nat.ble (Nat.succ b) lo || Nat.ble hi b
def footSame (s : St) (h h' : Tr HO) (hi : Nat) : Foot → Bool
  | .cells b o n => cond (Nat.ble hi b) true (match h.get b, h'.get b with
    | some (.row c _ _ _), some (.row c' _ _ _) => match sub c o n, sub c' o n with
      | some x, some y => avL x y
      | _, _ => false
    | _, _ => false)
  | .look t m k ok => match m with
    | .mp r => cond (Nat.ble hi r) true (match lookupA E t m k ok (s.withHp h), lookupA E t m k ok (s.withHp h') with
      | some x, some y => x.beq y
      | _, _ => false)
    | .nil .m => true
    | _ => false
  | .len r => cond (Nat.ble hi r) true (match h.get r, h'.get r with
    | some (.mapo e _), some (.mapo e' _) => Nat.beq (lenL e) (lenL e')
    | _, _ => false)
  | .row b => cond (Nat.ble hi b) true (match h.get b, h'.get b with
    | some (.row c es _ _), some (.row c' es' _ _) => Nat.beq (lenL c) (lenL c') && Nat.beq es es'
    | _, _ => false)
def footOut (lo hi : Nat) : Foot → Bool
  | .cells b _ _ => outB lo hi b
  | .look _ m _ _ => match m with
    | .mp r => outB lo hi r
    | .nil .m => true
    | _ => false
  | .len r => outB lo hi r
  | .row b => outB lo hi b
def allFoot (p : Foot → Bool) : List Foot → Bool
  | [] => true
  | f :: l => p f && allFoot p l
/-- are a value's names outside? (so deep) -/
def avLeaf (lo hi : Nat) : AV → Bool
  | .bool _ => true
  | .int _ _ => true
  | .sym _ _ => true
  | .str _ => true
  | .nil _ => true
  | .ptr b _ => outB lo hi b
  | .slc b _ _ _ => outB lo hi b
  | .mp r => outB lo hi r
  | .oth (.yld l) => outB lo hi l
  | .oth (.emp b _ _ _ _) => outB lo hi b
  | _ => false
def allV (p : AV → Bool) : List AV → Bool
  | [] => true
  | v :: l => p v && allV p l
def avNext (lo hi : Nat) (p : AV → Bool) : AV → Bool
  | .agg l => allV p l
  | .tup l => allV p l
  | .fn _ a b => allV p a && allV p b
  | .ifc _ v => p v
  | v => avLeaf lo hi v
def avOut (lo hi : Nat) : AV → Bool := avNext lo hi (avNext lo hi (avNext lo hi (avLeaf lo hi)))
def hoOut (lo hi : Nat) : HO → Bool
  | .row cells _ _ _ => allV (avOut lo hi) cells
  | .mapo [] _ => true
  | _ => false
/-- what an operation of the region has laid, or turned -/
structure Sn where
  i : Nat
  lo : Nat
  hi : Nat
  eff : Bool
  h : Tr HO
  h' : Tr HO
/-- what stands of an operation that may come ahead of others -/
def snOk1 (s s' : St) (fs : List Foot) (v : AV) (x : Sn) : Bool :=
  avOut x.lo x.hi v && (cond (Nat.beq s'.nx s.nx) true (hoOut x.lo x.hi (s'.obj s.nx)) && (allFoot (footOut x.lo x.hi) fs && cond x.eff (allFoot (footSame E s x.h x.h' x.hi) fs) true))
def snOk (a : Nat) (s s' : St) (fs : List Foot) (v : AV) : List Sn → Bool
  | [] => true
  | x :: l => cond (bit a x.i) (snOk a s s' fs v l) (cond (snOk1 E s s' fs v x) (snOk a s s' fs v l) false)
structure DRun where
  f : Way → List AV → Tm → St → List Sn → (Tm → St → Out) → Out
/-- an operation that turns the heap -/
def stepE (i : Nat) (o : ORun) (sl : Slot) (next : DRun) : DRun :=
  ⟨fun w l tm s sn k => (runO o sl ⟨fun w l tm s' k => next.f w l tm s' (⟨i, s.nx, s'.nx, true, s.hp, s'.hp⟩ :: sn) k⟩).f w l tm s k⟩
def chkO (a : Nat) (fs : List Foot) (sn : List Sn) (o : ORun) : ORun :=
  ⟨fun w l tm s k => o.f w l tm s fun v s' => (Bool.rec (motive := fun _ => _) (.fail) (k v s') (snOk E a s s' fs v sn))⟩
/-- one that reads at most, or lays a new object -/
def stepN (a i : Nat) (ft : FootR) (o : ORun) (sl : Slot) (next : DRun) : DRun :=
  ⟨fun w l tm s sn k => (Option.rec (motive := fun _ => _) (.fail) (fun fs => (runO (chkO E a fs sn o) sl ⟨fun w l tm s' k => next.f w l tm s' ((Bool.rec (motive := fun _ => _) (⟨i, s.nx, s'.nx, false, .nil, .nil⟩ :: sn) (sn) (Nat.beq s'.nx s.nx))) k⟩).f w l tm s k) (ft.f l tm))⟩
/-- one that isn't asked for -/
def stepS (sl : Slot) (next : DRun) : DRun :=
  ⟨fun w l tm s sn k => (runO ⟨fun _ _ _ s k => k undefA s⟩ sl ⟨fun w l tm s' k => next.f w l tm s' sn k⟩).f w l tm s k⟩
def stepD (a : Nat) (c : Cx) (ops : List Oper) (i : Nat) (o : Oper) (sl : Slot) (next : DRun) : DRun :=
  cond (okOs c (opL o.op) && okGuard c ops o) ⟨fun w l tm s sn k => (Bool.rec (motive := fun _ => _) ((stepS sl next).f w l tm s sn k) ((cond (isE o.op) (stepE i (hop E c o.op) sl next) (stepN E a i (footOf E c o.op) (hop E c o.op) sl next)).f w l tm s sn k) ((wantedA c ops o).f l tm))⟩ ⟨fun _ _ _ _ _ _ => .fail⟩
def ancAt (anc : List Nat) (i : Nat) : Nat := (nth anc i).getD 0
def runD (anc : List Nat) (N : Nat) (ops : List Oper) : List Nat → Cx → DRun
  | [], _ => ⟨fun _ _ tm s _ k => k tm s⟩
  | i :: l, c => match nth ops i with
    | none => ⟨fun _ _ _ _ _ _ => .fail⟩
    | some o => stepD E (ancAt anc i) c ops i o (slotOf c N o.dst) (runD anc N ops l (cxOf c (slotOf c N o.dst)))

/-! ### Is an order one that the region may draw, and all others like it? -/
structure PI where
  i : Nat
  rm : Nat
  db : Nat
def guardL (ops : List Oper) (o : Oper) : List Operand := match o.guard with
  | none => []
  | some (j, _) => match nth ops j with
    | some p => match p.dst with
      | some d => [.tmp d]
      | none => []
    | none => []
def tmpBit (x : Operand) : Nat := match x with
  | .tmp t => Nat.shiftLeft 1 t
  | _ => 0
def tmpsBit : List Operand → Nat
  | [] => 0
  | x :: l => Nat.lor (tmpBit x) (tmpsBit l)
def rdMask (ops : List Oper) (o : Oper) : Nat := Nat.lor (tmpsBit (guardL ops o)) (tmpsBit (opL o.op))
def dstBit (o : Oper) : Nat := match o.dst with
  | none => 0
  | some d => Nat.shiftLeft 1 d
/-- two of which neither must come first: neither writes what the other reads -/
def pairsOk (a rm db : Nat) : List PI → Bool
  | [] => true
  | p :: l => cond (bit a p.i || Nat.beq (Nat.lor (Nat.land p.db rm) (Nat.land p.rm db)) 0) (pairsOk a rm db l) false
def within (a b : Nat) : Bool := Nat.beq (Nat.land a b) a
def edgesIn (done : Nat) : List Edge → Bool
  | [] => true
  | e :: l => cond (cond (bind1 e) (bit done e.on) true) (edgesIn done l) false
def chkOne (ops : List Oper) (a i : Nat) (o : Oper) (done wd : Nat) (ps : List PI) : Bool :=
  notB (bit done i) && (edgesIn done o.after.toList && (cond (isE o.op) (within done a) true && (Nat.beq (Nat.land wd (dstBit o)) 0 &&
    cond (within done a) true (pairsOk a (rdMask ops o) (dstBit o) ps))))
def planChk (anc : List Nat) (ops : List Oper) : List Nat → Nat → Nat → List PI → Bool
  | [], done, _, _ => Nat.beq done (Nat.sub (Nat.shiftLeft 1 (lenL ops)) 1)
  | i :: l, done, wd, ps => match nth ops i with
    | none => false
    | some o => cond (chkOne ops (ancAt anc i) i o done wd ps)
      (planChk anc ops l (Nat.lor done (Nat.shiftLeft 1 i)) (Nat.lor wd (dstBit o)) (⟨i, rdMask ops o, dstBit o⟩ :: ps)) false
def runDraw (N G : Nat) (anc : List Nat) (ops : List Oper) (plan : List Nat) : DRun :=
  cond (planChk anc ops plan 0 0 []) (runD E anc N ops plan ⟨G, []⟩) ⟨fun _ _ _ _ _ _ => .fail⟩

/-! ### Code -/
def blockO (id : Nat) (r : Out) (k : Tm → St → Out) : Out := match r with
  | .normal t s => k t s
  | .exit i t s => cond (Nat.beq i id) (k t s) (.exit i t s)
  | r => r
def loopO (body : Tm → St → (Tm → St → Out) → Out) (n : Nat) : Tm → St → Out :=
  Nat.rec (motive := fun _ => Tm → St → Out) (fun _ _ => .fail) (fun _ ih t s => body t s ih) n
/-- a piece of code, and what stands behind each of its labels -/
structure CB where
  f : Way → Tm → St → (Tm → St → Out) → Out
  lab : Nat → Option CRun
def noLab : Nat → Option CRun := fun _ => none
def labSeq (a : Option CRun) (b : Way → Tm → St → (Tm → St → Out) → Out) (lb : Option CRun) : Option CRun := match a with
  | some r => some ⟨fun w t s k => r.f w t s fun t s => b w t s k⟩
  | none => lb
def scopeK (lab : Nat → Option CRun) (w : Way) (k : Tm → St → Out) (ih : Out → Out) (r : Out) : Out := match r with
  | .goto l t s => match lab l with
    | some c => ih (c.f w t s .normal)
    | none => .goto l t s
  | .normal t s => k t s
  | r => r
def scopeO (lab : Nat → Option CRun) (w : Way) (k : Tm → St → Out) (n : Nat) : Out → Out :=
  Nat.rec (motive := fun _ => Out → Out) (fun _ => .fail) (fun _ ih r => scopeK lab w k ih r) n

def setL (s : St) (l : Nat) (L : HLoop) : St := s.setO l (.lop L)
def readyL : LoopState → Bool
  | .ready => true
  | _ => false
def busyL : LoopState → Bool
  | .busy => true
  | _ => false
def jumpCode (c : Code) (t : Tm) (s : St) : Out := match c with
  | .ret => .ret t s
  | .exit id => .exit id t s
  | .goto l => .goto l t s
  | _ => .fail
def St.withDf (s : St) (df : List Nat) : St := match s with
  | ⟨hp, nx, gr, _⟩ => ⟨hp, nx, gr, df⟩
def afterL (l : Nat) (L : HLoop) (tm : Tm) (s : St) (df : List Nat) (k : Tm → St → Out) : Out :=
  cond (busyL L.state) .fail (match L.pending with
    | none => k tm ((setL s l { L with state := .exhausted }).withDf df)
    | some c => jumpCode c tm ((setL s l { L with state := .exhausted }).withDf df))
/-- behind a range over a function -/
def afterLoop (l : Nat) (tm : Tm) (df : List Nat) (k : Tm → St → Out) : CR → Out
  | .ok _ s => match s.obj l with
    | .lop L => afterL l L tm s df k
    | _ => .fail
  | .fail => .fail
def newLoop (s : St) (tm : Tm) (N G : Nat) (params : Array Tmp) (assign body : Code) (d : Nat) : Nat × St :=
  s.new (.lop { state := .ready, pending := none, tmps := tm, ntmps := N, mask := G, params := params, assign := assign, body := body, defers := d })
def rangeGo (w : Way) (l : Nat) (g : FuncId) (first captured : List AV) (tm : Tm) (s : St) (df : List Nat) (k : Tm → St → Out) : Out :=
  afterLoop l tm df k (w.call g (appL (appL first [.oth (.yld l)]) captured) s)
def rangeF (G N : Nat) (rd : Option Nat) (f : AV) (params : Array Tmp) (assign body : Code) (w : Way) (tm : Tm) (s : St) (k : Tm → St → Out) : Out :=
  match f with
  | .fn (.func g) first captured => match fnK E g with
    | .body => match rd with
      | none => match s.new .dfr with
        | (d, s1) => match newLoop s1 tm N G params assign body d with
          | (l, s2) => rangeGo w l g first captured tm s2 (d :: s.df) k
      | some l0 => match s.obj l0 with
        | .lop L0 => match newLoop s tm N G params assign body L0.defers with
          | (l, s2) => rangeGo w l g first captured tm s2 s.df k
        | _ => .fail
    | _ => .fail
  | _ => .fail

/-- a fuel for loops -/
def fuelL : Nat := 4000

def cc (G N : Nat) (rd : Option Nat) : Code → CB
  | .skip => ⟨fun _ t s k => k t s, noLab⟩
  | .label l => ⟨fun _ t s k => k t s, fun l' => cond (Nat.beq l l') (some ⟨fun _ t s k => k t s⟩) none⟩
  | .ret => ⟨fun _ t s _ => .ret t s, noLab⟩
  | .exit id => ⟨fun _ t s _ => .exit id t s, noLab⟩
  | .goto l => ⟨fun _ t s _ => .goto l t s, noLab⟩
  | .seq a b => ⟨fun w t s k => (cc G N rd a).f w t s fun t s => (cc G N rd b).f w t s k, fun l => labSeq ((cc G N rd a).lab l) (cc G N rd b).f ((cc G N rd b).lab l)⟩
  | .cond x a b => cond (okO ⟨G, []⟩ x) ⟨fun w t s k => (Option.rec (motive := fun _ => _) (.fail) (fun v => (Bool.rec (motive := fun _ => _) ((cc G N rd b).f w t s k) ((cc G N rd a).f w t s k) (v))) (boolOf ((ev ⟨G, []⟩ x).f [] t))), noLab⟩ ⟨fun _ _ _ _ => .fail, noLab⟩
  | .block id b => ⟨fun w t s k => blockO id ((cc G N rd b).f w t s .normal) k, noLab⟩
  | .loop b => ⟨fun w t s _ => loopO ((cc G N rd b).f w) fuelL t s, noLab⟩
  | .scope b => ⟨fun w t s k => scopeO (cc G N rd b).lab w k fuelL ((cc G N rd b).f w t s .normal), noLab⟩
  | .rangeFunc f ps a b => cond (okO ⟨G, []⟩ f) ⟨fun w t s k => rangeF E G N rd ((ev ⟨G, []⟩ f).f [] t) ps a b w t s k, noLab⟩ ⟨fun _ _ _ _ => .fail, noLab⟩
  | .region _ ops draw => cond draw
      ⟨fun w t s k => (runDraw E N G (ancL ops.toList []) ops.toList (planOf ops.toList)).f w [] t s [] k, noLab⟩
      ⟨fun w t s k => (runAll E N ops.toList ops.toList ⟨G, []⟩).f w [] t s k, noLab⟩
  | .refuse _ => ⟨fun _ _ _ _ => .fail, noLab⟩

/-! ### Which temporaries more than one region reads -/
def markO (wr : Nat) (g : Nat) (x : Operand) : Nat := match x with
  | .tmp t => (Bool.rec (motive := fun _ => _) (Nat.lor g (Nat.shiftLeft 1 t)) (g) (bit wr t))
  | _ => g
def markOs (wr : Nat) (l : List Operand) (g : Nat) : Nat := (List.rec (motive := fun _ => Nat → Nat) (fun g => g) (fun x _ ih g => ih (markO wr g x)) (l)) g
/-- ops in order; what was written in this region; the mask: what is read of others, or written twice -/
def markR (l : List Oper) (wr g : Nat) : Nat :=
  (List.rec (motive := fun _ => Nat → Nat → Nat) (fun _ g => g) (fun o _ ih wr g => (Option.rec (motive := fun _ => _) (ih wr (markOs wr (opL o.op) g)) (fun d => ih (Nat.lor wr (Nat.shiftLeft 1 d)) ((Bool.rec (motive := fun _ => _) (markOs wr (opL o.op) g) (Nat.lor (markOs wr (opL o.op) g) (Nat.shiftLeft 1 d)) (bit wr d)))) (o.dst))) (l)) wr g
def maskT : List Tmp → Nat → Nat
  | [], g => g
  | t :: l, g => maskT l (Nat.lor g (Nat.shiftLeft 1 t))
def maskC : Code → Nat → Nat
  | .seq a b, g => maskC b (maskC a g)
  | .cond x a b, g => maskC b (maskC a (markO 0 g x))
  | .block _ b, g => maskC b g
  | .loop b, g => maskC b g
  | .scope b, g => maskC b g
  | .rangeFunc f ps a b, g => maskC b (maskC a (maskT ps.toList (markO 0 g f)))
  | .region _ ops _, g => markR ops.toList 0 g
  | _, g => g
def maskRes : List ResultVar → Nat → Nat
  | [], g => g
  | .tmp t :: l, g => maskRes l (Nat.lor g (Nat.shiftLeft 1 t))
  | .cell t _ :: l, g => maskRes l (Nat.lor g (Nat.shiftLeft 1 t))
/-- the mask, as a number that is worked out -/
def maskF (c : Code) (rs : List ResultVar) : Nat := maskRes rs (maskC c 0)

/-! ### Calls -/
structure ResR where
  f : Tm → St → Option (List AV)
def resL (G : Nat) : List ResultVar → ResR
  | [] => ⟨fun _ _ => some []⟩
  | .tmp t :: l => cond (bit G t) ⟨fun tm s => (Option.rec (motive := fun _ => _) (none) (fun m => some ((ev ⟨G, []⟩ (.tmp t)).f [] tm :: m)) ((resL G l).f tm s))⟩ ⟨fun _ _ => none⟩
  | .cell a t :: l => cond (bit G a) ⟨fun tm s => onPtr none ((ev ⟨G, []⟩ (.tmp a)).f [] tm) fun b o => (Option.rec (motive := fun _ => _) (none) (fun v => (Option.rec (motive := fun _ => _) (none) (fun m => some (v :: m)) ((resL G l).f tm s))) (loadVar E.T s t b o))⟩ ⟨fun _ _ => none⟩
def oneOf : List AV → AV
  | [v] => v
  | l => .tup l
def takeMarks : List Nat → St → Option St
  | [], s => some s
  | r :: l, s => match s.obj r with
    | .dfr => takeMarks l (s.setO r .dead)
    | _ => none
def argTr : List AV → Nat → Tm → Tm
  | [], _, t => t
  | v :: l, i, t => argTr l (Nat.succ i) (t.set i v)
def setPs : List Tmp → List AV → Nat → Tm → Option Tm
  | [], [], _, t => some t
  | p :: ps, v :: vs, N, t => cond (Nat.ble (Nat.succ p) N) (setPs ps vs N (t.set p v)) none
  | _, _, _, _ => none

/-- a function, made ready -/
inductive FnR where
  | no
  | ok (ntmps : Nat) (body : CB) (res : ResR)
def fnG (G ntmps : Nat) (c : Code) (rs : List ResultVar) : FnR := .ok ntmps (cc E G ntmps none c) (resL E G rs)
def fnR (f : FuncId) : FnR := match E.F.get f with
  | some fn => match fn.body with
    | some c => fnG E (maskF c fn.results.toList) fn.ntmps c fn.results.toList
    | none => .no
  | none => .no
def leaveF (res : ResR) (tm : Tm) (s : Option St) : CR := (Option.rec (motive := fun _ => _) (.fail) (fun s => (Option.rec (motive := fun _ => _) (.fail) (fun l => .ok (oneOf l) s) (res.f tm s))) (s))
def leave (res : ResR) (r : Out) : CR := match r with
  | .normal t s => leaveF res t (takeMarks s.df s)
  | .ret t s => leaveF res t (takeMarks s.df s)
  | _ => .fail
def callW (w : Way) (f : FuncId) (args : List AV) (s : St) : CR :=
  match fnR E f with
  | .ok n body res => cond (Nat.ble (lenL args) n) (leave res (body.f w (argTr args 0 .nil) (s.withDf []) .normal)) .fail
  | .no => .fail

def roundEnd (l : Nat) (j : Option Code) (s : St) : CR := match s.obj l with
  | .lop L => match j with
    | none => .ok (.bool true) (setL s l { L with state := .ready, pending := none })
    | some c => .ok (.bool false) (setL s l { L with state := .done, pending := some c })
  | _ => .fail
def roundOut (l : Nat) (r : Out) : CR := match r with
  | .normal _ s => roundEnd l none s
  | .ret _ s => roundEnd l (some .ret) s
  | .exit id _ s => roundEnd l (some (.exit id)) s
  | .goto t _ s => roundEnd l (some (.goto t)) s
  | .fail => .fail
def roundBody (w : Way) (l G N : Nat) (body : Code) (r : Out) : CR := match r with
  | .normal t s => match s.obj l with
    | .lop L => cond (readyL L.state) (roundOut l ((cc E G N (some l) body).f w t (setL s l { L with state := .busy }) .normal)) .fail
    | _ => .fail
  | _ => .fail
def roundW (w : Way) (l : Nat) (args : List AV) (s : St) : CR :=
  match s.obj l with
  | .lop L => match setPs L.params.toList args L.ntmps L.tmps with
    | some tm => roundBody E w l L.mask L.ntmps L.body ((cc E L.mask L.ntmps (some l) L.assign).f w tm (s.withDf []) .normal)
    | none => .fail
  | _ => .fail

/-- the ways, so deep -/
def way (n : Nat) : Way := Nat.rec (motive := fun _ => Way) ⟨fun _ _ _ => .fail, fun _ _ _ => .fail⟩ (fun _ w => ⟨callW E w, roundW E w⟩) n
def callX (n : Nat) (f : FuncId) (args : List AV) (s : St) : CR := (way E n).call f args s
 end
 end
end Go.Vx
