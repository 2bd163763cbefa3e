/- How a function of the program is put as code of the reader. No condition. -/
import Derived.Test.YtagceefccafgoaaGreatDoorT00
set_option linter.all false
namespace Go.Ev
/-- A value of one cell as a value by content. -/
def ofCell : Value → Option V
  | .int k n => some (.int k n)
  | .bool b => some (.bool b)
  | .string s => some (.str s)
  | .pointer none => some .nilp
  | .slice none 0 0 => some .nils
  | .map none => some .nilm
  | .nilIface => some .nili
  | _ => none
def ofCells : List Value → Option (List V)
  | [] => some []
  | x :: xs => match ofCell x with
    | some v => (ofCells xs).map (v :: ·)
    | none => none
def ofValue : Value → Option V
  | .agg cs => (ofCells cs.toList).map .agg
  | .func (.func f) a b => if a.size = 0 ∧ b.size = 0 then some (.fn f [] []) else none
  | x => ofCell x
def arg : Operand → Option MArg
  | .tmp t => some (.t t)
  | .const v => (ofValue v).map .c
  | .func f => some (.c (.fn f [] []))
  | .global _ => none
def args : List Operand → Option (List MArg)
  | [] => some []
  | x :: xs => match arg x with
    | some a => (args xs).map (a :: ·)
    | none => none
def argO : Option Operand → Option (Option MArg)
  | none => some none
  | some x => (arg x).map some
section
variable (P : Program)
def isAgg? (t : TypeId) : Option Bool :=
  match P.underlying t with
  | some (.struct _) => some true
  | some (.array _ _) => some true
  | some _ => some false
  | none => none
def size? (t : TypeId) : Option Nat := (P.info? t).map (·.size)
def bytes? (t : TypeId) : Option Nat := (P.info? t).map (·.bytes)
/-- The cells of a type's zero value. -/
def zero? (t : TypeId) : Option (List V) :=
  match P.info? t with
  | some i => match i.zero with
    | some z => ofCells z.cells.toList
    | none => none
  | none => none
def zeroV? (t : TypeId) : Option V :=
  match P.info? t with
  | some i => match i.zero with
    | some z => ofValue z
    | none => none
  | none => none
def elem? (t : TypeId) : Option TypeId :=
  match P.underlying t with
  | some (.slice e) => some e
  | _ => none
def parts (fs : Array Field) : List (Nat × Operand) → Option (List (Nat × Nat × MArg))
  | [] => some []
  | (i, x) :: ps => match fs[i]?, arg x with
    | some f, some a => match size? P f.type with
      | some z => (parts fs ps).map ((f.offset, z, a) :: ·)
      | none => none
    | _, _ => none
def partsA (sz : Nat) : List (Nat × Operand) → Option (List (Nat × Nat × MArg))
  | [] => some []
  | (i, x) :: ps => match arg x with
    | some a => (partsA sz ps).map ((i * sz, sz, a) :: ·)
    | none => none
def partsS : List (Nat × Operand) → Option (List (Nat × MArg))
  | [] => some []
  | (i, x) :: ps => match arg x with
    | some a => (partsS ps).map ((i, a) :: ·)
    | none => none
def keyT (t : TypeId) : Option Nat :=
  match P.underlying t with
  | some (.int _) => some 0
  | some .string => some 1
  | some .bool => some 2
  | _ => none
def conv? (sh : Bool) (o : Oper) : Option MOp :=
  match o.op with
  | .move x => (arg x).map .mv
  | .assign x => (arg x).map .mv
  | .pick c a b => match arg c, arg a, arg b with
    | some c, some a, some b => some (.pick c a b)
    | _, _, _ => none
  | .alloc t => (zero? P t).map .new
  | .box _ x => (arg x).map .box
  | .build t ps => match P.underlying t, zero? P t with
    | some (.struct fs), some z => if fs.toList.all (fun f => (size? P f.type).isSome) then (parts P fs ps.toList).map (.build z ·) else none
    | some (.array _ e), some z => match size? P e with
      | some sz => (partsA sz ps.toList).map (.build z ·)
      | none => none
    | _, _ => none
  | .buildSlice t len ps => match elem? P t with
    | some e => match size? P e, zero? P e, partsS ps.toList with
      | some sz, some z, some ps => if len * sz ≤ 16777216 ∧ z.length = sz ∧ 0 < sz then some (.bsl sz z len ps) else none
      | _, _, _ => none
    | none => none
  | .load t a => match isAgg? P t, size? P t, arg a with
    | some ag, some sz, some a => some (.ld ag sz a)
    | _, _, _ => none
  | .store t a x => match size? P t, arg a, arg x with
    | some sz, some a, some x => some (.st sz a x)
    | _, _, _ => none
  | .nilCheck x => (arg x).map .nilc
  | .binOp op t x y _ => match arg x, arg y with
    | some x, some y => match P.underlying t with
      | some .bool => some (.bin op .bool x y)
      | some (.pointer _) => some (.bin op .ptr x y)
      | _ => some (.bin op .no x y)
    | _, _ => none
  | .unOp op _ x => (arg x).map (.un op)
  | .convert s d x => match P.underlying s, P.underlying d, arg x with
    | some (.int _), some (.int k), some x => some (.cvi k x)
    | some .string, some .string, some x => some (.cvs x)
    | some (.slice e), some .string, some x => match P.underlying e with
      | some (.int .u8) => some (.cvb x)
      | _ => none
    | _, _, _ => none
  | .makeFunc (.func f) a b => match args a.toList, args b.toList with
    | some a, some b => some (.mfn f a b)
    | _, _ => none
  | .makeMap t none => match P.underlying t with
    | some (.map _ _) => some .mmap
    | _ => none
  | .makeSlice t l c => match elem? P t with
    | some e => match size? P e, bytes? P e, zero? P e, arg l, arg c with
      | some sz, some by', some z, some l, some c => if 0 < sz then some (.mk sz by' z l c) else none
      | _, _, _, _, _ => none
    | none => none
  | .slice t x lo hi mx => match P.underlying t, arg x, argO lo, argO hi, argO mx with
    | some .string, some x, some lo, some hi, some none => some (.sls x lo hi)
    | some (.slice e), some x, some lo, some hi, some mx => (size? P e).map fun sz => .sll sz x lo hi mx
    | _, _, _, _, _ => none
  | .fieldAddr s x f => match P.underlying s, arg x with
    | some (.struct fs), some x => match fs[f]? with
      | some fd => match size? P fd.type with
        | some z => if z = 0 then none else some (.fa fd.offset x)
        | none => none
      | none => none
    | _, _ => none
  | .field t x f => match P.underlying t, arg x with
    | some (.struct fs), some x => match fs[f]? with
      | some fd => match isAgg? P fd.type, size? P fd.type with
        | some ag, some z => some (.fld ag z fd.offset x)
        | _, _ => none
      | none => none
    | _, _ => none
  | .indexAddr t x i => match P.underlying t, arg x, arg i with
    | some (.slice e), some x, some i => (size? P e).map fun sz => .ia sz x i
    | some (.array n e), some x, some i => match size? P e with
      | some sz => some (.iaa n sz x i)
      | none => none
    | _, _, _ => none
  | .index t x i => match P.underlying t, arg x, arg i with
    | some .string, some x, some i => some (.ixs x i)
    | _, _, _ => none
  | .lookup t m k ok => match P.underlying t, arg m, arg k with
    | some (.map kt e), some m, some k => match keyT P kt, zeroV? P e with
      | some kk, some z => some (.mlook kk z ok m k)
      | _, _ => none
    | _, _, _ => none
  | .mapUpdate t m k x => match P.underlying t, arg m, arg k, arg x with
    | some (.map kt _), some m, some k, some x => (keyT P kt).map fun kk => .mupd kk m k x
    | _, _, _, _ => none
  | .insert t m k x => match P.underlying t, arg m, arg k, arg x with
    | some (.map kt _), some m, some k, some x => (keyT P kt).map fun kk => .mupd kk m k x
    | _, _, _, _ => none
  | .mapEntry t m k => match P.underlying t, arg m, arg k with
    | some (.map kt e), some m, some k => match keyT P kt, zeroV? P e with
      | some kk, some z => some (.ment kk z m k)
      | _, _ => none
    | _, _, _ => none
  | .entryStore _ m s x => match arg m, arg s, arg x with
    | some m, some s, some x => some (.mst m s x)
    | _, _, _ => none
  | .extract x i => (arg x).map (.ext · i)
  | .call { callee := .value f, args := as, .. } => match arg f, args as.toList with
    | some f, some as => some (if sh then .calls f as else .callp f as)
    | _, _ => none
  | .call { callee := .builtin .len, args := as, argTypes := ts } => match as.toList, ts.toList with
    | [x], [t] => match P.underlying t, arg x with
      | some .string, some x => some (.len 0 x)
      | some (.slice _), some x => some (.len 1 x)
      | some (.map _ _), some x => some (.len 2 x)
      | _, _ => none
    | _, _ => none
  | .call { callee := .builtin .append, args := as, argTypes := ts } => match as.toList, ts.toList with
    | [s, x], [t, u] => match elem? P t, arg s, arg x with
      | some e, some s, some x => match size? P e, bytes? P e, zero? P e with
        | some sz, some by', some z => if 0 < sz ∧ z.length = sz then
            (match P.underlying u with
            | some (.slice _) => some (.app sz by' false s x)
            | some .string => some (.app sz by' true s x)
            | _ => none) else none
        | _, _, _ => none
      | _, _, _ => none
    | _, _ => none
  | .call { callee := .builtin .min, args := as, .. } => (args as.toList).map .mn
  | .call { callee := .builtin .max, args := as, .. } => (args as.toList).map .mx
  | _ => none
def conv (sh : Bool) (o : Oper) : MOp := (conv? P sh o).getD .bad
/-- What the prover adds to a region: the order in which its operations are read, which slots live on, which calls share the store. -/
structure Ann where
  ord : List Nat
  keep : Option (List Nat)
  sh : List Nat
  deriving Inhabited
def guard? (ops : Array Oper) : Option (Nat × Bool) → Option (Option (Nat × Bool))
  | none => some none
  | some (j, w) => match (ops[j]?).bind (·.dst) with
    | some t => some (some (t, w))
    | none => none
def convMO (P : Program) (nt : Nat) (ops : Array Oper) (an : Ann) (i : Nat) : Option MO :=
  match ops[i]? with
  | some o => match guard? ops o.guard with
    | some g => if o.dst.any (fun d => nt ≤ d) then none else some { dst := o.dst, guard := g, op := conv P (an.sh.contains i) o, vis := none, hide := [], chk := [] }
    | none => none
  | none => none
def convMOs (P : Program) (nt : Nat) (ops : Array Oper) (an : Ann) : List Nat → Option (List MO)
  | [] => some []
  | i :: is => match convMO P nt ops an i with
    | some m => (convMOs P nt ops an is).map (m :: ·)
    | none => none
/- Regions whose order is drawn. -/
def MOp.args : MOp → List MArg
  | .mv x => [x]
  | .pick c a b => [c, a, b]
  | .new _ => []
  | .box x => [x]
  | .build _ ps => ps.map (·.2.2)
  | .bsl _ _ _ ps => ps.map (·.2)
  | .ld _ _ a => [a]
  | .st _ a x => [a, x]
  | .nilc x => [x]
  | .bin _ _ x y => [x, y]
  | .un _ x => [x]
  | .cvi _ x => [x]
  | .cvs x => [x]
  | .cvb x => [x]
  | .cvy x => [x]
  | .sls x lo hi => x :: (lo.toList ++ hi.toList)
  | .sll _ x lo hi hx => x :: (lo.toList ++ hi.toList ++ hx.toList)
  | .fa _ x => [x]
  | .fld _ _ _ x => [x]
  | .ia _ x i => [x, i]
  | .iaa _ _ x i => [x, i]
  | .ixs x i => [x, i]
  | .ext x _ => [x]
  | .len _ x => [x]
  | .app _ _ _ s x => [s, x]
  | .mk _ _ _ a b => [a, b]
  | .mmap => []
  | .mlook _ _ _ m k => [m, k]
  | .mupd _ m k x => [m, k, x]
  | .ment _ _ m k => [m, k]
  | .mst m s x => [m, s, x]
  | .mfn _ a b => a ++ b
  | .callp f as => f :: as
  | .calls f as => f :: as
  | .mn xs => xs
  | .mx xs => xs
  | .bad => []
/-- It neither reads nor changes memory. -/
def MOp.free : MOp → Bool
  | .mv _ | .pick .. | .build .. | .nilc _ | .bin .. | .un .. | .cvi .. | .cvs _ | .sls .. | .fa .. | .fld .. | .iaa .. | .ixs .. | .ext .. | .mfn .. | .mn _ | .mx _ => true
  | _ => false
/-- It changes memory that was there before. -/
def MOp.loud : MOp → Bool
  | .st .. | .app .. | .mupd .. | .ment .. | .mst .. | .calls .. => true
  | _ => false
def MOp.isCalls : MOp → Bool
  | .calls .. => true
  | _ => false
/-- It makes blocks and does nothing else. -/
def MOp.alloc : MOp → Bool
  | .new _ | .box _ | .bsl .. | .mk .. | .mmap | .cvy _ | .callp .. => true
  | _ => false
/-- It reads nothing of memory. -/
def MOp.indep : MOp → Bool
  | .new _ | .box _ | .bsl .. | .mk .. | .mmap | .cvy _ => true
  | m => m.free
/-- An operation of such a region. -/
structure Raw where
  i : Nat
  dst : Option Nat
  guard : Option (Nat × Bool)
  op : MOp
  vis : List Nat
  deriving Inhabited
def tmpsOf : List MArg → List Nat
  | [] => []
  | .t n :: as => n :: tmpsOf as
  | .c _ :: as => tmpsOf as
def convRaw (P : Program) (nt : Nat) (ops : Array Oper) (an : Ann) (i : Nat) : Option Raw :=
  match ops[i]? with
  | some o => match guard? ops o.guard with
    | some g => if o.dst.any (fun d => nt ≤ d) then none else
      let m := conv P (an.sh.contains i) o
      some { i := i, dst := o.dst, guard := g, op := m, vis := (g.map (·.1)).toList ++ tmpsOf m.args }
    | none => none
  | none => none
def convRaws (P : Program) (nt : Nat) (ops : Array Oper) (an : Ann) : List Nat → Option (List Raw)
  | [] => some []
  | i :: is => match convRaw P nt ops an i with
    | some m => (convRaws P nt ops an is).map (m :: ·)
    | none => none
def preds (ops : Array Oper) (i : Nat) : List Nat := match ops[i]? with
  | some o => (o.after.toList.filter (Region.binds .any)).map (·.on)
  | none => []
abbrev Tab := List (Nat × Nat)
def Tab.get : Tab → Nat → Nat
  | [], _ => 0
  | (i, m) :: t, j => if i = j then m else Tab.get t j
def maskOf (t : Tab) : List Nat → Nat
  | [] => 0
  | p :: ps => 2 ^ p ||| t.get p ||| maskOf t ps
def masks (ops : Array Oper) : List Nat → Tab → Tab
  | [], t => t
  | i :: is, t => masks ops is ((i, maskOf t (preds ops i)) :: t)
/-- x is bound to come behind y. -/
def Tab.anc (t : Tab) (x y : Nat) : Bool := (t.get x).testBit y
def noDst (d : Option Nat) (vis : List Nat) : Bool := match d with
  | some t => !vis.contains t
  | none => true
def okPair (t : Tab) (all : List Raw) (y x : Raw) : Bool :=
  (match y.dst, x.dst with | some d, some e => d != e | _, _ => true) && y.i != x.i && !t.anc y.i x.i &&
  (t.anc x.i y.i || ((!y.op.loud || x.op.free) && (!x.op.isCalls || !y.op.alloc) && noDst x.dst y.vis && noDst y.dst x.vis &&
    (!x.op.loud || y.op.indep || (y.dst.isSome && all.all fun z => noDst z.dst y.vis || t.anc y.i z.i))))
def okPairs (t : Tab) (all : List Raw) : List Raw → Bool
  | [] => true
  | y :: l => l.all (okPair t all y) && okPairs t all l
def okRaws (ops : Array Oper) (t : Tab) (rs : List Raw) : Bool :=
  decide (rs.length ≤ ops.size) && okPairs t rs rs && rs.all (fun r => (!r.op.alloc || r.dst.isSome) && !t.anc r.i r.i && t.get r.i == maskOf t (preds ops r.i) && (preds ops r.i).all (fun p => decide (p < ops.size))) &&
  (List.range ops.size).all fun i => rs.any fun r => r.i == i
/-- Where blocks go that an operation may not look at. -/
def hideOf (t : Tab) (pre : List Raw) (x : Raw) : List Nat := pre.filterMap fun z => if z.op.alloc && !t.anc x.i z.i then z.dst else none
def chkOf (t : Tab) (pre : List Raw) (x : Raw) : List Chk := pre.filterMap fun c =>
  if t.anc x.i c.i || c.op.indep then none else c.dst.map fun d => { t := d, guard := c.guard, op := c.op, vis := c.vis, hide := hideOf t pre c }
def moOf (t : Tab) (pre : List Raw) (x : Raw) : MO :=
  { dst := x.dst, guard := x.guard, op := x.op, vis := some x.vis, hide := if x.op.free then [] else hideOf t pre x, chk := if x.op.loud then chkOf t pre x else [] }
def mosOf (t : Tab) : List Raw → List Raw → List MO
  | _, [] => []
  | pre, x :: l => moOf t pre x :: mosOf t (x :: pre) l
def convDr (P : Program) (nt : Nat) (ops : Array Oper) (an : Ann) : Option (List MO) :=
  match convRaws P nt ops an an.ord with
  | some rs =>
    let t := masks ops an.ord []
    if okRaws ops t rs then some (mosOf t [] rs) else none
  | none => none
def convReg (P : Program) (nt : Nat) (ops : Array Oper) (draw : Bool) (an : Ann) : MCode :=
  if draw then (match convDr P nt ops an with | some l => .reg l an.keep | none => .bad)
  else match convMOs P nt ops an (List.range ops.size) with | some l => .reg l an.keep | none => .bad
def convC (P : Program) (nt : Nat) (anns : List Ann) : Code → MCode
  | .skip => .skip
  | .region id ops draw => convReg P nt ops draw (anns.getD id default)
  | .seq a b => .seq (convC P nt anns a) (convC P nt anns b)
  | .cond c a b => match arg c with
    | some c => .cond c (convC P nt anns a) (convC P nt anns b)
    | none => .bad
  | .block id c => .block id (convC P nt anns c)
  | .loop c => .loop (convC P nt anns c)
  | .exit id => .exit id
  | .ret => .ret
  | _ => .bad
def sliceSize (P : Program) (t : Option TypeId) : Nat :=
  match t with
  | some t => match elem? P t with
    | some e => (size? P e).getD 0
    | none => 0
  | none => 0
def convRes (P : Program) : List ResultVar → List TypeId → Option (List (MRes × Nat))
  | [], _ => some []
  | .tmp t :: rs, ts => (convRes P rs ts.tail).map ((.t t, sliceSize P ts.head?) :: ·)
  | .cell a t :: rs, ts => match isAgg? P t, size? P t with
    | some ag, some sz => (convRes P rs ts.tail).map ((.cell ag sz a, sliceSize P ts.head?) :: ·)
    | _, _ => none
def convF (P : Program) (f : FuncId) (anns : List Ann) : Option MFun :=
  match P.funcs[f]? with
  | some fn => match fn.body with
    | some c => if fn.name = "runtime.NumGoroutine" then none else
      match convRes P fn.results.toList fn.resultTypes.toList with
      | some rs => some { results := rs, body := convC P fn.ntmps anns c }
      | none => none
    | none => none
  | none => none
end
end Go.Ev
