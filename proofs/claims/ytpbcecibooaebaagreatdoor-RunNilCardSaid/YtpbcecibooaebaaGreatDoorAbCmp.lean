/-
  The model's code as the abstract machine's instructions. (Definitions alone.)
-/
import Derived.Test.YtpbcecibooaebaaGreatDoorAbLang
import GoSem.Dispatch
import GoSem.Core.Region
import GoSem.Core.Layout
namespace Go.Ab
noncomputable section

def ofLeaf : Value → Option AV
  | .bool b => some (.bool b)
  | .int k n => some (.int k n)
  | .string s => some (.str s.data.toList)
  | .pointer none => some .nilp
  | .slice none 0 0 => some .nils
  | .nilFunc => some .nilf
  | .map r => match r with
    | none => some .nilm
    | some _ => none
  | .nilIface => some .nili
  | _ => none

def ofLeaves : List Value → Option (List AV)
  | [] => some []
  | v :: vs => match ofLeaf v, ofLeaves vs with
    | some a, some as => some (a :: as)
    | _, _ => none

def ofV : Value → Option AV
  | .agg cs => match ofLeaves cs.toList with
    | some l => some (.agg l)
    | none => none
  | v => ofLeaf v

def mapO {α β : Type} (f : α → Option β) : List α → Option (List β)
  | [] => some []
  | a :: as => match f a, mapO f as with
    | some b, some bs => some (b :: bs)
    | _, _ => none

section
variable (P : Program)

def zeroVal (t : TypeId) : Option AV :=
  match P.info? t with
  | some i => match i.zero with
    | some v => ofV v
    | none => none
  | none => none

def zeroOf (t : TypeId) : Option (List AV) :=
  match zeroVal P t with
  | some a => some a.cells
  | none => none

def aggT (t : TypeId) : Option Bool :=
  match P.underlying t with
  | some (.struct _) | some (.array _ _) => some true
  | some _ => some false
  | none => none

def sizeT (t : TypeId) : Option Nat :=
  match P.info? t with
  | some i => some i.size
  | none => none

def bytesT (t : TypeId) : Option Nat :=
  match P.info? t with
  | some i => some i.bytes
  | none => none

/-- of how many cells is a variable, and is its value an aggregate? -/
def wideT (t : TypeId) : Option (Nat × Bool) :=
  match aggT P t, sizeT P t with
  | some true, some n => some (n, true)
  | some false, some _ => some (1, false)
  | _, _ => none

def cOpd : Operand → Option Opd
  | .tmp t => some (.t t)
  | .const v => match ofV v with
    | some a => some (.c a)
    | none => none
  | .global g => if g < P.globals.size then some (.c (.ptr g 0)) else none
  | .func f => some (.c (.fn f [] []))

def cOpds (l : List Operand) : Option (List Opd) := mapO (cOpd P) l

/-- an operand that need not be there -/
def cOpt (x : Option Operand) : Option (Option Opd) :=
  match x with
  | none => some none
  | some x => match cOpd P x with
    | some y => some (some y)
    | none => none

def cParts (place : Nat → Option (Nat × Nat)) (ps : List (Nat × Operand)) : Option (List ((Nat × Nat) × Opd)) :=
  mapO (fun p => match place p.1, cOpd P p.2 with
    | some q, some x => some (q, x)
    | _, _ => none) ps

def fieldAt (fs : Array Field) (i : Nat) : Option (Nat × Nat) :=
  match fs[i]? with
  | some f => match sizeT P f.type with
    | some n => some (f.offset, n)
    | none => none
  | none => none

def leafT (t : TypeId) : Option EqT :=
  match P.underlying t with
  | some .bool => some .bool
  | some (.int _) => some .int
  | some .string => some .str
  | _ => none

/-- the cells of a struct's fields, from an offset on -/
def flatFs (g : TypeId → Option (List EqT)) : Nat → List Field → Option (List EqT)
  | _, [] => some []
  | off, f :: fs =>
    if off = f.offset ∧ f.name ≠ "_" then match g f.type with
      | some r => if sizeT P f.type = some r.length then match flatFs g (off + r.length) fs with
          | some q => some (r ++ q)
          | none => none
        else none
      | none => none
    else none

/-- the cells of a type that '==' goes through, one by one -/
def flatT : Nat → TypeId → Option (List EqT)
  | 0, _ => none
  | d + 1, t => match P.underlying t with
    | some .bool => some [.bool]
    | some (.int _) => some [.int]
    | some .string => some [.str]
    | some (.struct fs) => if P.stoodInHeld t then none else flatFs P (flatT d) 0 fs.toList
    | some (.array n e) => match flatT d e with
      | some r => if sizeT P e = some r.length then some ((List.replicate n r).flatten) else none
      | none => none
    | _ => none

def eqK (t : TypeId) : Option EqK :=
  match P.underlying t with
  | some .bool => some (.leaf .bool)
  | some (.pointer e) => match sizeT P e with
    | some (_ + 1) => some .ptr
    | _ => none
  | some (.slice _) => some .slice
  | some (.func ..) => some .func
  | some (.struct _) | some (.array _ _) => if P.eqGuardType P.depth t then none else match flatT P 20 t with
    | some l => some (.agg l)
    | none => none
  | _ => none

def cBin (op : BinOp) (t : TypeId) (x y : Opd) : Option AI :=
  match P.underlying t with
  | some (.int _) => some (.ibin op x y)
  | some .string => some (.sbin op x y)
  | _ => match op, eqK P t with
    | .eql, some k => some (.eq false k x y)
    | .neq, some k => some (.eq true k x y)
    | _, _ => none

def isU8 (e : TypeId) : Bool := match P.underlying e with
  | some (.int .u8) => true
  | _ => false

def cConv (src dst : TypeId) (x : Opd) : Option AI :=
  match P.underlying src, P.underlying dst with
  | some (.int _), some (.int k) => some (.toInt k x)
  | some (.int _), some .string => some (.toStr x)
  | some .string, some .string => some (.toStr x)
  | some (.slice e), some .string => if isU8 P e then some (.strOf x) else none
  | some .string, some (.slice e) => if isU8 P e then some (.bytesOf e x) else none
  | some (.slice _), some (.slice e) => if isU8 P e && src == dst then some (.same x) else none
  | some (.pointer t), some .unsafePointer => match sizeT P t with
    | some (_ + 1) => some (.ptrTo x)
    | _ => none
  | some .unsafePointer, some (.pointer u) => match sizeT P u with
    | some (s + 1) => some (.ptrOf (s + 1) u x)
    | _ => none
  | _, _ => none

def cSlice (t : TypeId) (x : Opd) (lo hi mx : Option Opd) : Option AI :=
  match P.underlying t with
  | some (.array n e) => match sizeT P e with
    | some s => if n * s = 0 then none else some (.sliceA n s x lo hi mx)
    | none => none
  | some .string => match mx with
    | none => some (.sliceS x lo hi)
    | some _ => none
  | some (.slice e) => match sizeT P e with
    | some s => some (.sliceV s x lo hi mx)
    | none => none
  | _ => none

def cIAddr (t : TypeId) (x i : Opd) : Option AI :=
  match P.underlying t with
  | some (.array n e) => match sizeT P e with
    | some s => some (.iaddrA n s x i)
    | none => none
  | some (.slice e) => match sizeT P e with
    | some s => some (.iaddrV s x i)
    | none => none
  | _ => none

def cIndex (t : TypeId) (x i : Opd) : Option AI :=
  match P.underlying t with
  | some (.array n e) => match wideT P e, sizeT P e with
    | some (m, agg), some s => if m = s then some (.idxA n s agg x i) else none
    | _, _ => none
  | some .string => some (.idxS x i)
  | _ => none

def cAssert (x : Opd) (t : TypeId) (ok : Bool) : Option AI :=
  match P.underlying t with
  | some (.interface _) => none
  | some _ => if ok then match zeroVal P t with
      | some z => some (.assert t (some z) x)
      | none => none
    else some (.assert t none x)
  | none => none

def cBuiltin (b : Builtin) (argTypes : List TypeId) (args : List Opd) : Option AI :=
  match b, argTypes, args with
  | .len, [t], [x] => match P.underlying t with
    | some .string => some (.lenS x)
    | some (.slice _) => some (.lenV x)
    | some (.array n _) => some (.mov (.c (.int .i64 (.ofNat n))))
    | _ => none
  | .cap, [t], [x] => match P.underlying t with
    | some (.slice _) => some (.capV x)
    | _ => none
  | .max, _, [x, y] => some (.max x y)
  | .min, _, [x, y] => some (.min x y)
  | .unsafeSliceData, _, [x] => some (.sdata x)
  | .append, [t, u], [x, y] => match P.underlying t with
    | some (.slice e) => match sizeT P e, bytesT P e, zeroOf P e with
      | some (s + 1), some bytes, some z => if z.length ≠ s + 1 then none else
        match P.underlying u with
        | some (.int _) => some (.append e (s + 1) bytes (some z) x y)
        | some _ => some (.append e (s + 1) bytes none x y)
        | none => none
      | _, _, _ => none
    | _ => none
  | .copy, [t, _], [x, y] => match P.underlying t with
    | some (.slice e) => match sizeT P e with
      | some s => some (.copy s x y)
      | none => none
    | _ => none
  | .clear, [t], [x] => match P.underlying t with
    | some (.slice e) => match zeroOf P e with
      | some z => some (.clear z x)
      | none => none
    | _ => none
  | .unsafeString, [t, _], [p, n] => match P.underlying t with
    | some (.pointer u) => if P.cellsOf u = 1 then some (.ustr u p n) else none
    | _ => none
  | _, _, _ => none

def cExtern (fn : Func) (args : List Opd) : Option AI :=
  if !(fn.origin == "") then none else if fn.name == "internal/bytealg.IndexByteString" then match args with
    | [s, c] => some (.xbyte s c)
    | _ => none
  else if fn.name == "internal/bytealg.CountString" then match args with
    | [s, c] => some (.xcount s c)
    | _ => none
  else if fn.name == "internal/bytealg.IndexString" then match args, P.globals.findIdx? (·.name == "internal/bytealg.MaxLen") with
    | [s, p], some g => some (.xindex g s p)
    | _, _ => none
  else if fn.name == "internal/abi.NoEscape" then match args with
    | [x] => some (.xnone x)
    | _ => none
  else if fn.name == "internal/bytealg.MakeNoZero" then match args, fn.resultTypes[0]? with
    | [n], some t => match P.underlying t with
      | some (.slice e) => if sizeT P e = some 1 then some (.xzero e n) else none
      | _ => none
    | _, _ => none
  else none

def cCall (f : Operand) (args : List Opd) : Option AI :=
  match f with
  | .func g => match P.funcs[g]? with
    | some fn => match fn.body with
      | some _ => some (.call (.c (.fn g [] [])) args)
      | none => cExtern P fn args
    | none => none
  | f => match cOpd P f with
    | some f => some (.call f args)
    | none => none

def cOp (o : Op) : Option AI :=
  match o with
  | .move x | .assign x => match cOpd P x with
    | some x => some (.mov x)
    | none => none
  | .pick c a b => match cOpd P c, cOpd P a, cOpd P b with
    | some c, some a, some b => some (.pick c a b)
    | _, _, _ => none
  | .alloc e => match zeroOf P e with
    | some z => some (.alloc e z)
    | none => none
  | .box e x => match cOpd P x with
    | some x => some (.box e x)
    | none => none
  | .build t ps => match zeroOf P t, P.underlying t with
    | some z, some (.struct fs) => match fs.toList.mapM (fun f => (P.info? f.type).map fun i => (f.offset, i.size)) with
      | some places => match cParts P (fun i => places.toArray[i]?) ps.toList with
        | some ps => some (.build z ps)
        | none => none
      | none => none
    | some z, some (.array _ e) => match P.info? e with
      | some i => match cParts P (fun j => some (j * i.size, i.size)) ps.toList with
        | some ps => some (.build z ps)
        | none => none
      | none => none
    | _, _ => none
  | .buildSlice t len ps => match P.underlying t with
    | some (.slice e) => match sizeT P e, zeroOf P e with
      | some (s + 1), some z => if z.length = s + 1 ∧ len * (s + 1) ≤ 16777216 then
          match cParts P (fun i => some (i * (s + 1), s + 1)) ps.toList with
          | some ps => some (.bslice e (s + 1) len (rep z len) ps)
          | none => none
        else none
      | _, _ => none
    | _ => none
  | .load t a => match wideT P t, cOpd P a with
    | some (n, agg), some a => some (.load n agg a)
    | _, _ => none
  | .store t a v => match sizeT P t, cOpd P a, cOpd P v with
    | some n, some a, some v => some (.store n a v)
    | _, _, _ => none
  | .nilCheck x => match cOpd P x with
    | some x => some (.nilck x)
    | none => none
  | .binOp op t x y _ => match cOpd P x, cOpd P y with
    | some x, some y => cBin P op t x y
    | _, _ => none
  | .unOp op _ x => match op, cOpd P x with
    | .neg, some x => some (.neg x)
    | .xor, some x => some (.com x)
    | .not, some x => some (.not x)
    | _, _ => none
  | .convert src dst x => match cOpd P x with
    | some x => cConv P src dst x
    | none => none
  | .makeInterface t x => match P.underlying t, cOpd P x with
    | some (.interface _), _ => none
    | some _, some x => some (.iface t x)
    | _, _ => none
  | .makeFunc (.func f) a b => match cOpds P a.toList, cOpds P b.toList with
    | some a, some b => some (.mkfn f a b)
    | _, _ => none
  | .makeSlice t l c => match P.underlying t with
    | some (.slice e) => match sizeT P e, bytesT P e, zeroOf P e, cOpd P l, cOpd P c with
      | some (s + 1), some bytes, some z, some l, some c => if z.length = s + 1 then some (.mkslice e (s + 1) bytes z l c) else none
      | _, _, _, _, _ => none
    | _ => none
  | .slice t x lo hi mx => match cOpd P x, cOpt P lo, cOpt P hi, cOpt P mx with
    | some x, some lo, some hi, some mx => if mx.isSome && hi.isNone then none else cSlice P t x lo hi mx
    | _, _, _, _ => none
  | .fieldAddr t x i => match P.underlying t, cOpd P x with
    | some (.struct fs), some x => match fieldAt P fs i with
      | some (off, _ + 1) => some (.faddr off x)
      | _ => none
    | _, _ => none
  | .field t x i => match P.underlying t, cOpd P x with
    | some (.struct fs), some x => match fs[i]? with
      | some f => match wideT P f.type with
        | some (n, agg) => some (.field f.offset n agg x)
        | none => none
      | none => none
    | _, _ => none
  | .indexAddr t x i => match cOpd P x, cOpd P i with
    | some x, some i => cIAddr P t x i
    | _, _ => none
  | .index t x i => match cOpd P x, cOpd P i with
    | some x, some i => cIndex P t x i
    | _, _ => none
  | .range t x => match P.underlying t, cOpd P x with
    | some .string, some x => some (.range x)
    | _, _ => none
  | .makeMap t none => match P.underlying t with
    | some (.map k _) => match P.underlying k with
      | some .string => some .mkmap
      | _ => none
    | _ => none
  | .lookup t x i ok => match P.underlying t, cOpd P x, cOpd P i with
    | some (.map k e), some x, some i => match P.underlying k, zeroVal P e, aggT P e with
      | some .string, some z, some false => some (.lookup ok z x i)
      | _, _, _ => none
    | _, _, _ => none
  | .mapUpdate t x i v => match P.underlying t, cOpd P x, cOpd P i, cOpd P v with
    | some (.map k _), some x, some i, some v => match P.underlying k with
      | some .string => some (.mapup x i v)
      | _ => none
    | _, _, _, _ => none
  | .next x true => match cOpd P x with
    | some x => some (.next x)
    | none => none
  | .typeAssert x _ t ok => match cOpd P x with
    | some x => cAssert P x t ok
    | none => none
  | .extract x i => match cOpd P x with
    | some x => some (.extract x i)
    | none => none
  | .call c => match cOpds P c.args.toList with
    | some args => match c.callee with
      | .builtin b => cBuiltin P b c.argTypes.toList args
      | .value f => cCall P f args
      | .invoke _ _ => none
    | none => none
  | _ => none

def cGuard (ops : Array Oper) (g : Option (Nat × Bool)) : Option (Option (Nat × Bool)) :=
  match g with
  | none => some none
  | some (j, want) => match ops[j]? with
    | some o => match o.dst with
      | some d => some (some (d, want))
      | none => none
    | none => none

/-- nt: how many temporaries there are -/
def cOper (nt : Nat) (ops : Array Oper) (o : Oper) : Option AO :=
  match cOp P o.op, cGuard ops o.guard with
  | some i, some g => match o.dst with
    | some d => if d < nt then some ⟨some d, i, g⟩ else none
    | none => some ⟨none, i, g⟩
  | _, _ => none

/-- what an instruction looks at -/
def _root_.Go.Ab.AI.opds (i : AI) : List Opd :=
  match i with
  | .mov x | .load _ _ x | .nilck x | .neg x | .not x | .com x | .toInt _ x | .toStr x | .strOf x | .ptrTo x | .ptrOf _ _ x | .iface _ x | .faddr _ x | .field _ _ _ x
  | .assert _ _ x | .extract x _ | .lenS x | .lenV x | .capV x | .sdata x | .box _ x | .bytesOf _ x | .same x | .range x | .next x | .clear _ x | .xnone x | .xzero _ x => [x]
  | .pick c a b => [c, a, b]
  | .build _ ps | .bslice _ _ _ _ ps => ps.map (·.2)
  | .ibin _ x y | .sbin _ x y | .eq _ _ x y | .iaddrA _ _ x y | .iaddrV _ x y | .idxA _ _ _ x y | .idxS x y | .max x y | .min x y | .store _ x y | .mkslice _ _ _ _ x y
  | .lookup _ _ x y | .append _ _ _ _ x y | .copy _ x y | .ustr _ x y | .xbyte x y | .xcount x y | .xindex _ x y => [x, y]
  | .mkfn _ a b => a ++ b
  | .sliceS x lo hi => x :: (lo.toList ++ hi.toList)
  | .sliceV _ x lo hi mx | .sliceA _ _ x lo hi mx => x :: (lo.toList ++ (hi.toList ++ mx.toList))
  | .alloc .. | .mkmap => []
  | .mapup x i v => [x, i, v]
  | .call f args => f :: args

/-- those that leave the heap as it is, but look at it -/
def _root_.Go.Ab.AI.reads (i : AI) : Bool :=
  match i with
  | .load .. | .strOf _ | .ptrTo _ | .ptrOf .. | .sliceA .. | .lookup .. => true
  | _ => false

/-- the temporaries that an instruction names -/
def _root_.Go.Ab.AO.names (o : AO) : List Nat :=
  (match o.guard with | some (d, _) => [d] | none => []) ++ o.op.opds.filterMap fun | .t i => some i | .c _ => none

def bitAt (b : List Nat) (j i : Nat) : Bool := (b.getD j 0).testBit i

/-- is each instruction that writes a temporary, of another that names it, surely ahead of that, or surely behind it? -/
def tempsOk (l : List (AO × Nat)) (b : List Nat) : Bool :=
  l.all fun p => p.1.names.all fun t => l.all fun q => match q.1.dst with
    | some d => !Nat.beq d t || Nat.beq p.2 q.2 || bitAt b p.2 q.2 || bitAt b q.2 p.2
    | none => true

def distinct : List Nat → Bool
  | [] => true
  | x :: r => r.all (fun y => !Nat.beq x y) && distinct r

/-- all acts stand one behind the other -/
def chained (b : List Nat) : List Nat → Bool
  | i :: j :: r => bitAt b j i && chained b (j :: r)
  | _ => true

/-- may its block be laid at any time? -/
def floats (o : AO) : Bool := o.op.isNew && o.guard.isNone

def isAct (o : AO) : Bool := o.op.act && !floats o

/-- k: so many blocks that may be laid at any time stand ahead; op: those that no act has needed, each with its place -/
def dItems (b acts : List Nat) : List (AO × Nat) → Nat → List (Nat × Nat) → List DI × List Nat
  | [], _, op => ([], op.map (·.2))
  | (o, j) :: r, k, op => match floats o with
    | true => match dItems b acts r (k + 1) ((j, k) :: op) with
      | (ds, last) => (.fnew o k :: ds, last)
    | false => match o.op.act with
      | true => match dItems b acts r k (op.filter fun f => !bitAt b j f.1) with
        | (ds, last) => (.act ((op.filter fun f => bitAt b j f.1).map (·.2)) o :: ds, last)
      | false => match dItems b acts r k op with
        | (ds, last) => match o.op.reads with
          | true => (.read o (acts.filter fun c => bitAt b j c).length (acts.filter fun c => !bitAt b c j).length :: ds, last)
          | false => (.op o :: ds, last)

/-- each edge that always binds leads to what stands ahead in the text -/
def edgesOk (ops : List (Oper × Nat)) : Bool := ops.all fun p => p.1.after.toList.all fun e => !Region.binds .any e || Nat.blt e.on p.2

def cDraw (nt : Nat) (ops : Array Oper) : Option AC :=
  match mapO (cOper P nt ops) ops.toList with
  | none => none
  | some l =>
    let b := (Region.before ops).toList
    let acts := (l.zipIdx.filter fun p => isAct p.1).map (·.2)
    if distinct (l.filterMap (·.dst)) && tempsOk l.zipIdx b && chained b acts && edgesOk ops.toList.zipIdx then
      match dItems b acts l.zipIdx 0 [] with
      | (ds, last) => some (.dreg (l.filter floats).length ds last)
    else none

/-- inr: is it within a range over a function? -/
def cCode (nt : Nat) (inr : Bool) : Code → AC
  | .skip => .skip
  | .label _ => .skip
  | .region _ ops false => match mapO (cOper P nt ops) ops.toList with
    | some l => .reg l
    | none => .bad
  | .region _ ops true => match cDraw P nt ops with
    | some c => c
    | none => .bad
  | .seq a b => .seq (cCode nt inr a) (cCode nt inr b)
  | .cond x a b => match cOpd P x with
    | some x => .cond x (cCode nt inr a) (cCode nt inr b)
    | none => .bad
  | .block id a => .block id (cCode nt inr a)
  | .loop a => .loop (cCode nt inr a)
  | .rangeFunc f ps asg body => match inr, cOpd P f, ps.toList.all (fun p => Nat.blt p nt) with
    | false, some f, true => .rfunc f ps.toList (cCode nt true asg) (cCode nt true body)
    | _, _, _ => .bad
  | .exit id => .exit id
  | .ret => .ret
  | _ => .bad

def cRV : ResultVar → Option RV
  | .tmp t => some (.t t)
  | .cell a t => match wideT P t with
    | some (n, agg) => some (.cell a n agg)
    | none => none

def cFn (f : Nat) : Option AFn :=
  match P.funcs[f]? with
  | some fn => match fn.body, mapO (cRV P) fn.results.toList with
    | some c, some rs => if fn.name == "runtime.NumGoroutine" then none else some ⟨fn.ntmps, rs, cCode P fn.ntmps false c⟩
    | _, _ => none
  | none => none

end
end
end Go.Ab
