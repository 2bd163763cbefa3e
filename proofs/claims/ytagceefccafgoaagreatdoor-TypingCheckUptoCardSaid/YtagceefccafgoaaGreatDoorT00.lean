/- A reader of the program's code that computes with values by content: the values, the operations, the reader. No condition. -/
import Derived.Calls
import Derived.Orders
import Derived.Below
set_option linter.all false
namespace Go.Ev
/-- Values by content. 'ref', 'sub', 'ptr', 'map' name blocks of the reader's own store; 'slc', 'dptr' are memory that nobody writes. -/
inductive V where
  | int (k : IntKind) (n : Int)
  | bool (b : Bool)
  | str (s : ByteArray)
  | agg (cs : List V)
  | tup (vs : List V)
  | slc (xs : List (List V))
  | lst (sz : Nat) (xs : List (List V))
  | ref (b n : Nat)
  | sub (b n lo hi : Nat)
  | ptr (b n i o : Nat)
  | dptr (cs : List V) (o : Nat)
  | nils
  | nilp
  | nilm
  | nili
  | und
  | map (b : Nat)
  | fn (f : FuncId) (first cap : List V)
  deriving Inhabited
/-- Blocks of the store: a row of elements, a map. -/
inductive Blk where
  | arr (sz : Nat) (xs : List (List V))
  | mp (es : List (V × V))
  deriving Inhabited
abbrev Store := List (Option Blk)
def Store.rd (σ : Store) (b : Nat) : Option Blk := (σ[b]?).join
def V.cells : V → List V
  | .agg cs => cs
  | v => [v]
mutual
def V.plain : V → Bool
  | .int _ _ => true
  | .bool _ => true
  | .str _ => true
  | .agg cs => plains cs
  | .tup vs => plains vs
  | .slc xs => plainss xs
  | .lst _ _ => false
  | .ref _ _ => false
  | .sub _ _ _ _ => false
  | .ptr _ _ _ _ => false
  | .dptr cs _ => plains cs
  | .nils => false
  | .nilp => true
  | .nilm => true
  | .nili => true
  | .und => false
  | .map _ => false
  | .fn _ first cap => plains first && plains cap
/-- No value names a block of the store. -/
def plains : List V → Bool
  | [] => true
  | v :: vs => v.plain && plains vs
def plainss : List (List V) → Bool
  | [] => true
  | c :: cs => plains c && plainss cs
end
mutual
def V.flat : V → Bool
  | .int _ _ => true
  | .bool _ => true
  | .str _ => true
  | .agg cs => flats cs
  | .tup vs => flats vs
  | .slc xs => xs.isEmpty
  | .lst _ _ => false
  | .ref _ _ => false
  | .sub _ _ _ _ => false
  | .ptr _ _ _ _ => false
  | .dptr _ _ => false
  | .nils => true
  | .nilp => true
  | .nilm => true
  | .nili => true
  | .und => false
  | .map _ => false
  | .fn _ first cap => flats first && flats cap
/-- No value leads into memory. -/
def flats : List V → Bool
  | [] => true
  | v :: vs => v.flat && flats vs
end
def flatss : List (List V) → Bool
  | [] => true
  | c :: cs => flats c && flatss cs
mutual
/-- A value's contents, out of the store: 'f' is asked for the cells of a block. -/
def V.deepBy (rd : Nat → Option Blk) (f : List (List V) → Option (List (List V))) : V → Option V
  | .agg cs => (deepBys rd f cs).map .agg
  | .tup vs => (deepBys rd f vs).map .tup
  | .slc xs => (deepByss rd f xs).map .slc
  | .ref b n => match rd b with
    | some (.arr _ xs) => if xs.length = n then (f xs).map .slc else none
    | _ => none
  | .sub b n lo hi => match rd b with
    | some (.arr _ xs) => if xs.length = n then (f ((xs.drop lo).take (hi - lo))).map .slc else none
    | _ => none
  | .nils => some (.slc [])
  | .int k n => some (.int k n)
  | .bool b => some (.bool b)
  | .str s => some (.str s)
  | .nilp => some .nilp
  | .nilm => some .nilm
  | .nili => some .nili
  | .dptr cs o => (deepBys rd f cs).map (.dptr · o)
  | .fn g a b => match deepBys rd f a with
    | some a' => (deepBys rd f b).map (.fn g a' ·)
    | none => none
  | _ => none
def deepBys (rd : Nat → Option Blk) (f : List (List V) → Option (List (List V))) : List V → Option (List V)
  | [] => some []
  | v :: vs => match v.deepBy rd f with
    | some x => (deepBys rd f vs).map (x :: ·)
    | none => none
def deepByss (rd : Nat → Option Blk) (f : List (List V) → Option (List (List V))) : List (List V) → Option (List (List V))
  | [] => some []
  | c :: cs => match deepBys rd f c with
    | some x => (deepByss rd f cs).map (x :: ·)
    | none => none
end
def deepCells (rd : Nat → Option Blk) : Nat → List (List V) → Option (List (List V))
  | 0, _ => none
  | n + 1, xs => deepByss rd (deepCells rd n) xs
def deep (rd : Nat → Option Blk) (v : V) : Option V := v.deepBy rd (deepCells rd 20)
/-- What a pure call is handed: contents alone. -/
def toPlain (rd : Nat → Option Blk) (v : V) : Option V := if v.plain then some v else deep rd v
def toPlains (rd : Nat → Option Blk) : List V → Option (List V)
  | [] => some []
  | v :: vs => match toPlain rd v with
    | some x => (toPlains rd vs).map (x :: ·)
    | none => none
/-- An operand. -/
inductive MArg where
  | t (n : Nat)
  | c (v : V)
  deriving Inhabited
/-- What '==' compares, where it isn't numbers or strings. -/
inductive EqK where
  | no | bool | ptr
  deriving DecidableEq, Inhabited
/-- Operations. -/
inductive MOp where
  | mv (x : MArg)
  | pick (c a b : MArg)
  | new (zero : List V)
  | box (x : MArg)
  | build (zero : List V) (ps : List (Nat × Nat × MArg))
  | bsl (sz : Nat) (zero : List V) (len : Nat) (ps : List (Nat × MArg))
  | ld (ag : Bool) (sz : Nat) (a : MArg)
  | st (sz : Nat) (a x : MArg)
  | nilc (x : MArg)
  | bin (op : BinOp) (ek : EqK) (x y : MArg)
  | un (op : UnOp) (x : MArg)
  | cvi (k : IntKind) (x : MArg)
  | cvs (x : MArg)
  | cvb (x : MArg)
  | cvy (x : MArg)
  | sls (x : MArg) (lo hi : Option MArg)
  | sll (sz : Nat) (x : MArg) (lo hi mx : Option MArg)
  | fa (off : Nat) (x : MArg)
  | fld (ag : Bool) (sz off : Nat) (x : MArg)
  | ia (sz : Nat) (x i : MArg)
  | iaa (len sz : Nat) (x i : MArg)
  | ixs (x i : MArg)
  | ext (x : MArg) (i : Nat)
  | len (k : Nat) (x : MArg)
  | app (sz bytes : Nat) (str : Bool) (s x : MArg)
  | mk (sz bytes : Nat) (zero : List V) (len cap : MArg)
  | mmap
  | mlook (kk : Nat) (zero : V) (ok : Bool) (m k : MArg)
  | mupd (kk : Nat) (m k x : MArg)
  | ment (kk : Nat) (zero : V) (m k : MArg)
  | mst (m s x : MArg)
  | mfn (f : FuncId) (first cap : List MArg)
  | callp (f : MArg) (args : List MArg)
  | calls (f : MArg) (args : List MArg)
  | mn (xs : List MArg)
  | mx (xs : List MArg)
  | bad
  deriving Inhabited
/-- What an operation does to the store. -/
inductive Eff where
  | nop
  | news (ks : List Blk)
  | set (b : Nat) (k : Blk)
  deriving Inhabited
def evs (ev : MArg → Option V) : List MArg → Option (List V)
  | [] => some []
  | a :: as => match ev a with
    | some v => (evs ev as).map (v :: ·)
    | none => none
def V.isCell : V → Bool
  | .agg _ => false
  | .tup _ => false
  | .lst _ _ => false
  | .und => false
  | _ => true
/-- The cells that a value takes up in memory. -/
def V.cells? : V → Option (List V)
  | .agg cs => some cs
  | .tup _ => none
  | .lst _ _ => none
  | .und => none
  | v => some [v]
def okSz (sz : Nat) : List (List V) → Bool
  | [] => true
  | c :: _ => c.length == sz
def V.isStr : V → Bool
  | .str _ => true
  | _ => false
/-- The elements behind a slice. -/
def elems (rd : Nat → Option Blk) : V → Option (List (List V))
  | .slc xs => some xs
  | .nils => some []
  | .str s => some (s.data.toList.map fun b => [V.int .u8 b.toNat])
  | .ref b n => match rd b with
    | some (.arr _ xs) => if xs.length = n then some xs else none
    | _ => none
  | .sub b n lo hi => match rd b with
    | some (.arr _ xs) => if xs.length = n then some ((xs.drop lo).take (hi - lo)) else none
    | _ => none
  | _ => none
def bytesOf : List (List V) → Option (List UInt8)
  | [] => some []
  | [.int .u8 n] :: cs => (bytesOf cs).map (UInt8.ofNat n.toNat :: ·)
  | _ :: _ => none
/-- A length: of a text (0), a slice (1), a map (2). -/
def lenOf (rd : Nat → Option Blk) : Nat → V → Option Nat
  | 0, .str s => some s.size
  | 1, .slc xs => some xs.length
  | 1, .nils => some 0
  | 1, .ref b n => match rd b with
    | some (.arr _ xs) => if xs.length = n then some n else none
    | _ => none
  | 1, .sub b n lo hi => match rd b with
    | some (.arr _ xs) => if xs.length = n ∧ lo ≤ hi then some (hi - lo) else none
    | _ => none
  | 2, .nilm => some 0
  | 2, .map b => match rd b with
    | some (.mp es) => some es.length
    | _ => none
  | _, _ => none
/-- A piece of a text. -/
def cut (s : ByteArray) (l h : Nat) : ByteArray := ⟨((s.data.toList.drop l).take (h - l)).toArray⟩
def splice (c : List V) (o sz : Nat) (d : List V) : List V := c.take o ++ d ++ c.drop (o + sz)
def fillBuild (cells : List V) : List (Nat × Nat × V) → Option (List V)
  | [] => some cells
  | (off, sz, v) :: rest => match v.cells? with
    | some d => if d.length = sz ∧ off + sz ≤ cells.length then fillBuild (splice cells off sz d) rest else none
    | none => none
def fillRow (sz : Nat) (xs : List (List V)) : List (Nat × V) → Option (List (List V))
  | [] => some xs
  | (i, v) :: rest => match v.cells? with
    | some d => if d.length = sz ∧ i < xs.length then fillRow sz (xs.set i d) rest else none
    | none => none
def bounds (k : Nat) : Option V → Option Nat
  | some (.int _ n) => if 0 ≤ n ∧ n ≤ k then some n.toNat else none
  | _ => none
/-- A bound that may be left out. -/
def bnd (ev : MArg → Option V) (k d : Nat) : Option MArg → Option Nat
  | none => some d
  | some x => bounds k (ev x)
def intBin (op : BinOp) (k : IntKind) (a b : Int) : Option V :=
  match op with
  | .add => some (.int k (k.wrap (a + b)))
  | .sub => some (.int k (k.wrap (a - b)))
  | .mul => some (.int k (k.wrap (a * b)))
  | .quo => if b = 0 then none else some (.int k (k.wrap (a.tdiv b)))
  | .rem => if b = 0 then none else some (.int k (a.tmod b))
  | .and => some (.int k (k.wrap ((BitVec.ofInt k.bits a) &&& (BitVec.ofInt k.bits b)).toNat))
  | .or => some (.int k (k.wrap ((BitVec.ofInt k.bits a) ||| (BitVec.ofInt k.bits b)).toNat))
  | .xor => some (.int k (k.wrap ((BitVec.ofInt k.bits a) ^^^ (BitVec.ofInt k.bits b)).toNat))
  | .andNot => some (.int k (k.wrap ((BitVec.ofInt k.bits a) &&& ~~~(BitVec.ofInt k.bits b)).toNat))
  | .eql => some (.bool (a == b))
  | .neq => some (.bool (a != b))
  | .lss => some (.bool (a < b))
  | .leq => some (.bool (a ≤ b))
  | .gtr => some (.bool (a > b))
  | .geq => some (.bool (a ≥ b))
  | _ => none
def strBin (op : BinOp) (a b : ByteArray) : Option V :=
  match op with
  | .add => if a.size + b.size ≤ 4611686018427387904 then some (.str (a ++ b)) else none
  | .eql => some (.bool (a.toList == b.toList))
  | .neq => some (.bool !(a.toList == b.toList))
  | .lss => some (.bool (Op.bytesLess a.toList b.toList))
  | .leq => some (.bool (Op.bytesLess a.toList b.toList || a.toList == b.toList))
  | .gtr => some (.bool !(Op.bytesLess a.toList b.toList || a.toList == b.toList))
  | .geq => some (.bool !(Op.bytesLess a.toList b.toList))
  | _ => none
def evBin (op : BinOp) (ek : EqK) (x y : V) : Option V :=
  match x, y with
  | .int k a, .int k' b =>
    match op with
    | .shl => if b < 0 then none else some (.int k (k.wrap (a * 2 ^ (min b.toNat k.bits))))
    | .shr => if b < 0 then none else some (.int k (a.fdiv (2 ^ (min b.toNat k.bits))))
    | _ => if k = k' then intBin op k a b else none
  | .str a, .str b => strBin op a b
  | .bool a, .bool b =>
    match ek, op with
    | .bool, .eql => some (.bool (a == b))
    | .bool, .neq => some (.bool !(a == b))
    | _, _ => none
  | .nilp, .nilp =>
    match ek, op with
    | .ptr, .eql => some (.bool true)
    | .ptr, .neq => some (.bool false)
    | _, _ => none
  | .ptr _ _ _ _, .nilp | .dptr _ _, .nilp | .nilp, .ptr _ _ _ _ | .nilp, .dptr _ _ =>
    match ek, op with
    | .ptr, .eql => some (.bool false)
    | .ptr, .neq => some (.bool true)
    | _, _ => none
  | _, _ => none
def evUn (op : UnOp) (x : V) : Option V :=
  match op, x with
  | .neg, .int k n => some (.int k (k.wrap (0 - n)))
  | .xor, .int k n => intBin .xor k (if k.signed then -1 else k.max) n
  | .not, .bool b => some (.bool !b)
  | _, _ => none
/-- A result of a pure call comes into the caller's store. -/
def imps (nb : Nat) : List V → List V × List Blk
  | [] => ([], [])
  | .lst sz xs :: vs => let r := imps (nb + 1) vs; (.ref nb xs.length :: r.1, .arr sz xs :: r.2)
  | v :: vs => let r := imps nb vs; (v :: r.1, r.2)
def imp (nb : Nat) : V → V × List Blk
  | .lst sz xs => (.ref nb xs.length, [.arr sz xs])
  | .tup vs => let r := imps nb vs; (.tup r.1, r.2)
  | v => (v, [])
/-- No part of a result leads into memory that was there before. -/
def V.fresh : V → Bool
  | .lst _ xs => flatss xs
  | .tup vs => vs.all fun | .lst _ xs => flatss xs | v => v.flat
  | v => v.flat
def keyEq : V → V → Option Bool
  | .int k a, .int k' b => if k = k' then some (a == b) else none
  | .str a, .str b => some (a == b)
  | .bool a, .bool b => some (a == b)
  | _, _ => none
def findK (k : V) : List (V × V) → Nat → Option (Option (Nat × V))
  | [], _ => some none
  | (x, v) :: es, i => match keyEq k x with
    | some true => some (some (i, v))
    | some false => findK k es (i + 1)
    | none => none
def isKey : V → Bool
  | .int _ _ | .str _ | .bool _ => true
  | _ => false
def keyK (kk : Nat) : V → Bool
  | .int _ _ => kk == 0
  | .str _ => kk == 1
  | .bool _ => kk == 2
  | _ => false
/-- The entries of a map. -/
def entries (rd : Nat → Option Blk) : V → Option (List (V × V))
  | .nilm => some []
  | .map b => match rd b with
    | some (.mp es) => some es
    | _ => none
  | _ => none
def most (f : Int → Int → Bool) (k : IntKind) : Int → List V → Option V
  | q, [] => some (.int k q)
  | q, .int k' z :: vs => if k = k' then most f k (if f q z then z else q) vs else none
  | _, _ :: _ => none
def most2 (f : Int → Int → Bool) : List V → Option V
  | .int k a :: vs => most f k a vs
  | _ => none
/-- One operation that is no call on the store. 'cf': pure calls; 'nb': the number that the next new block gets. -/
def evalOp (cf : FuncId → List V → Option V) (rd : Nat → Option Blk) (nb : Nat) (ev : MArg → Option V) : MOp → Option (V × Eff)
  | .mv x => (ev x).map (·, .nop)
  | .pick c a b => match ev c, ev a, ev b with
    | some (.bool c), some a, some b => some (if c then a else b, .nop)
    | _, _, _ => none
  | .new zero => some (.ptr nb 1 0 0, .news [.arr zero.length [zero]])
  | .box x => match ev x with
    | some v => v.cells?.map fun d => (.ptr nb 1 0 0, .news [.arr d.length [d]])
    | none => none
  | .build zero ps => match evs ev (ps.map (·.2.2)) with
    | some vs => (fillBuild zero ((ps.zip vs).map fun p => (p.1.1, p.1.2.1, p.2))).map (.agg ·, .nop)
    | none => none
  | .bsl sz zero len ps => match evs ev (ps.map (·.2)) with
    | some vs => (fillRow sz (List.replicate len zero) ((ps.zip vs).map fun p => (p.1.1, p.2))).map fun xs => (.ref nb len, .news [.arr sz xs])
    | none => none
  | .ld ag sz a => match ev a with
    | some (.dptr c o) => if ag then (if o + sz ≤ c.length then some (.agg ((c.drop o).take sz), .nop) else none) else (c[o]?).map (·, .nop)
    | some (.ptr b n i o) => match rd b with
      | some (.arr _ xs) => if xs.length = n then
          (match xs[i]? with
          | some c => if ag then (if o + sz ≤ c.length then some (.agg ((c.drop o).take sz), .nop) else none) else (c[o]?).map (·, .nop)
          | none => none) else none
      | _ => none
    | _ => none
  | .st sz a x => match ev a, ev x with
    | some (.ptr b n i o), some v => match rd b, v.cells? with
      | some (.arr s xs), some d => if xs.length = n ∧ d.length = sz then
          (match xs[i]? with
          | some c => if o + sz ≤ c.length then some (.und, .set b (.arr s (xs.set i (splice c o sz d)))) else none
          | none => none) else none
      | _, _ => none
    | _, _ => none
  | .nilc x => match ev x with
    | some (.ptr b n i o) => some (.ptr b n i o, .nop)
    | some (.dptr c o) => some (.dptr c o, .nop)
    | _ => none
  | .bin op ek x y => match ev x, ev y with
    | some x, some y => (evBin op ek x y).map (·, .nop)
    | _, _ => none
  | .un op x => match ev x with
    | some x => (evUn op x).map (·, .nop)
    | _ => none
  | .cvi k x => match ev x with
    | some (.int _ n) => some (.int k (k.wrap n), .nop)
    | _ => none
  | .cvs x => match ev x with
    | some (.str s) => some (.str s, .nop)
    | _ => none
  | .cvb x => match ev x with
    | some (.str _) => none
    | some v => match elems rd v with
      | some xs => (bytesOf xs).map fun bs => (V.str ⟨bs.toArray⟩, Eff.nop)
      | none => none
    | none => none
  | .cvy x => match ev x with
    | some (.str s) => some (.ref nb s.size, .news [.arr 1 (s.data.toList.map fun b => [V.int .u8 b.toNat])])
    | _ => none
  | .sls x lo hi => match ev x with
    | some (.str s) => match bnd ev s.size s.size hi with
      | some h => match bnd ev h 0 lo with
        | some l => some (.str (cut s l h), .nop)
        | none => none
      | none => none
    | _ => none
  | .sll sz x lo hi mx => if mx.isSome ∧ hi.isNone then none else match ev x with
    | none => none
    | some .nils => match bnd ev 0 0 mx, bnd ev 0 0 hi, bnd ev 0 0 lo with
      | some _, some _, some _ => some (.nils, .nop)
      | _, _, _ => none
    | some (.str _) => none
    | some v => match elems rd v with
      | none => none
      | some xs => match bnd ev xs.length xs.length mx with
        | none => none
        | some m => match bnd ev m xs.length hi with
          | none => none
          | some h => if m < h then none else match bnd ev h 0 lo with
            | none => none
            | some l => if mx.isSome ∧ m = l then some (.nils, .nop) else if okSz sz xs then (match v with
              | .slc xs => some (.slc ((xs.drop l).take (h - l)), .nop)
              | .ref b n => if l = 0 ∧ h = n ∧ mx.isNone then some (.ref b n, .nop) else some (.sub b n l h, .nop)
              | .sub b n l0 _ => some (.sub b n (l0 + l) (l0 + h), .nop)
              | _ => none) else none
  | .fa off x => match ev x with
    | some (.ptr b n i o) => some (.ptr b n i (o + off), .nop)
    | some (.dptr c o) => some (.dptr c (o + off), .nop)
    | _ => none
  | .fld ag sz off x => match ev x with
    | some (.agg c) => if ag then (if off + sz ≤ c.length then some (.agg ((c.drop off).take sz), .nop) else none) else (c[off]?).map (·, .nop)
    | _ => none
  | .ia sz x i => match ev x, ev i with
    | some (.slc xs), some (.int _ i) => if 0 ≤ i then (match xs[i.toNat]? with | some c => if c.length = sz then some (.dptr c 0, .nop) else none | none => none) else none
    | some (.ref b n), some (.int _ i) => match rd b with
      | some (.arr s xs) => if xs.length = n ∧ s = sz ∧ 0 ≤ i ∧ i < n then some (.ptr b n i.toNat 0, .nop) else none
      | _ => none
    | some (.sub b n lo hi), some (.int _ i) => match rd b with
      | some (.arr s xs) => if xs.length = n ∧ s = sz ∧ 0 ≤ i ∧ i < hi - lo ∧ hi ≤ n then some (.ptr b n (lo + i.toNat) 0, .nop) else none
      | _ => none
    | _, _ => none
  | .iaa len sz x i => match ev x, ev i with
    | some (.ptr b n j o), some (.int _ i) => if 0 ≤ i ∧ i < len then some (.ptr b n j (o + i.toNat * sz), .nop) else none
    | some (.dptr c o), some (.int _ i) => if 0 ≤ i ∧ i < len then some (.dptr c (o + i.toNat * sz), .nop) else none
    | _, _ => none
  | .ixs x i => match ev x, ev i with
    | some (.str s), some (.int _ i) => if 0 ≤ i then (s.data.toList[i.toNat]?).map fun b => (V.int .u8 b.toNat, Eff.nop) else none
    | _, _ => none
  | .ext x i => match ev x with
    | some (.tup vs) => (vs[i]?).map (·, .nop)
    | _ => none
  | .len k x => match ev x with
    | some v => match lenOf rd k v with
      | some n => some (.int .i64 (n : Nat), .nop)
      | none => none
    | none => none
  | .app sz bytes str s x => match ev s, ev x with
    | some s, some x => if x.isStr != str then none else match elems rd x with
      | none => none
      | some ys => if !okSz sz ys then none else
        (match s with
        | .nils => if (ys.length + 1000) * (bytes + 1) ≤ 1099511627776 then some (.ref nb ys.length, .news [.arr sz ys]) else none
        | .ref b n => match rd b with
          | some (.arr s xs) => if xs.length = n ∧ s = sz ∧ (n + ys.length + 1000) * (bytes + 1) ≤ 1099511627776 then some (.ref b (n + ys.length), .set b (.arr sz (xs ++ ys))) else none
          | _ => none
        | _ => none)
    | _, _ => none
  | .mk sz bytes zero len cap => match ev len, ev cap with
    | some (.int _ l), some (.int _ c) => if 0 ≤ l ∧ l ≤ c ∧ c * (bytes + 1) ≤ 1099511627776 ∧ zero.length = sz then some (.ref nb l.toNat, .news [.arr sz (List.replicate l.toNat zero)]) else none
    | _, _ => none
  | .mmap => some (.map nb, .news [.mp []])
  | .mlook kk zero ok m k => match ev m, ev k with
    | some m, some k => if !keyK kk k then none else
      match entries rd m with
      | some es => match findK k es 0 with
        | some r =>
          some (if ok then .tup [(r.map (·.2)).getD zero, .bool r.isSome] else (r.map (·.2)).getD zero, .nop)
        | none => none
      | none => none
    | _, _ => none
  | .mupd kk m k x => match ev m, ev k, ev x with
    | some (.map b), some k, some x => if !keyK kk k then none else
      match rd b with
      | some (.mp es) => match findK k es 0 with
        | some (some (i, _)) => some (.und, .set b (.mp (es.set i (k, x))))
        | some none => some (.und, .set b (.mp (es ++ [(k, x)])))
        | none => none
      | _ => none
    | _, _, _ => none
  | .ment kk zero m k => match ev m, ev k with
    | some (.map b), some k => if !keyK kk k then none else
      match rd b with
      | some (.mp es) => match findK k es 0 with
        | some (some (i, v)) => some (.tup [v, .int .i64 i], .nop)
        | some none => some (.tup [zero, .int .i64 es.length], .set b (.mp (es ++ [(k, zero)])))
        | none => none
      | _ => none
    | _, _ => none
  | .mst m s x => match ev m, ev s, ev x with
    | some (.map b), some (.int _ i), some x =>
      match rd b with
      | some (.mp es) => if 0 ≤ i then (match es[i.toNat]? with | some e => some (.und, .set b (.mp (es.set i.toNat (e.1, x)))) | none => none) else none
      | _ => none
    | _, _, _ => none
  | .mfn f first cap => match evs ev first, evs ev cap with
    | some a, some b => some (.fn f a b, .nop)
    | _, _ => none
  | .callp f args => match ev f, evs ev args with
    | some (.fn f first cap), some vs => match toPlains rd (first ++ vs ++ cap) with
      | some us => match cf f us with
        | some r => if plains (first ++ vs ++ cap) || r.fresh then (let p := imp nb r; some (p.1, match p.2 with | [] => .nop | ks => .news ks)) else none
        | none => none
      | none => none
    | _, _ => none
  | .mn xs => match evs ev xs with
    | some vs => (most2 (fun x y => y < x) vs).map (·, .nop)
    | none => none
  | .mx xs => match evs ev xs with
    | some vs => (most2 (fun x y => x < y) vs).map (·, .nop)
    | none => none
  | .calls _ _ => none
  | .bad => none
abbrev Env := List (Nat × V)
def Env.look : Env → Nat → Option V
  | [], _ => none
  | (t, v) :: e, n => if t = n then some v else Env.look e n
def Env.put (e : Env) (d : Option Nat) (v : V) : Env :=
  match d with
  | some d => (d, v) :: e
  | none => e
def Env.arg (e : Env) : MArg → Option V
  | .t n => e.look n
  | .c v => some v
def Env.keep (e : Env) : List Nat → Env
  | [] => []
  | t :: ts => match e.look t with
    | some v => (t, v) :: Env.keep e ts
    | none => Env.keep e ts
def apply (σ : Store) : Eff → Store
  | .nop => σ
  | .news ks => σ ++ ks.map some
  | .set b k => σ.set b (some k)
mutual
def V.same : V → V → Bool
  | .int k a, .int j b => k == j && a == b
  | .bool a, .bool b => a == b
  | .str a, .str b => a.data.toList == b.data.toList
  | .agg a, .agg b => sames a b
  | .tup a, .tup b => sames a b
  | .slc a, .slc b => samess a b
  | .ref a b, .ref c d => a == c && b == d
  | .sub a b c d, .sub a' b' c' d' => a == a' && b == b' && c == c' && d == d'
  | .ptr a b c d, .ptr a' b' c' d' => a == a' && b == b' && c == c' && d == d'
  | .dptr a o, .dptr b p => sames a b && o == p
  | .nils, .nils => true
  | .nilp, .nilp => true
  | .nilm, .nilm => true
  | .nili, .nili => true
  | .map a, .map b => a == b
  | _, _ => false
def sames : List V → List V → Bool
  | [], [] => true
  | a :: as, b :: bs => a.same b && sames as bs
  | _, _ => false
def samess : List (List V) → List (List V) → Bool
  | [], [] => true
  | a :: as, b :: bs => sames a b && samess as bs
  | _, _ => false
end
/-- What must give the same behind an operation of a region whose order is drawn. -/
structure Chk where
  t : Nat
  guard : Option (Nat × Bool)
  op : MOp
  vis : List Nat
  hide : List Nat
  deriving Inhabited
/-- An operation in its region: where its result goes; on what it hangs; which slots it looks at (if that is asked); which slots' blocks it may not look at; which operations must give the same behind it. -/
structure MO where
  dst : Option Nat
  guard : Option (Nat × Bool)
  op : MOp
  vis : Option (List Nat)
  hide : List Nat
  chk : List Chk
  deriving Inhabited
inductive MCode where
  | skip
  | reg (ops : List MO) (keep : Option (List Nat))
  | seq (a b : MCode)
  | cond (c : MArg) (a b : MCode)
  | block (id : Nat) (c : MCode)
  | loop (c : MCode)
  | exit (id : Nat)
  | ret
  | bad
  deriving Inhabited
inductive MExit where
  | normal | exit (id : Nat) | ret
  deriving Inhabited
inductive MRes where
  | t (n : Nat)
  | cell (ag : Bool) (sz n : Nat)
  deriving Inhabited
structure MFun where
  results : List (MRes × Nat)
  body : MCode
  deriving Inhabited
def blockOf : V → Option Nat
  | .ref b _ => some b
  | .ptr b _ _ _ => some b
  | .map b => some b
  | _ => none
/-- The blocks that a value names outright. -/
def blocksOf : V → List Nat
  | .tup vs => vs.filterMap blockOf
  | v => (blockOf v).toList
def hidden (e : Env) (hide : List Nat) (b : Nat) : Bool := hide.any fun t => match e.look t with
  | some v => (blocksOf v).contains b
  | none => false
def hideRd (e : Env) (hide : List Nat) (rd : Nat → Option Blk) : Nat → Option Blk :=
  match hide with
  | [] => rd
  | hide => fun b => if hidden e hide b then none else rd b
def visE (e : Env) : Option (List Nat) → MArg → Option V
  | none => e.arg
  | some l => fun
    | .t n => if l.contains n then e.look n else none
    | .c v => some v
abbrev CallS := FuncId → List V → Store → Option (V × Store)
/-- Whether an operation that hangs on a slot is wanted. -/
def gate (want : Bool) : V → Option Bool
  | .bool b => some (b == want)
  | .und => some false
  | _ => none
def check1 (cf : FuncId → List V → Option V) (rd : Nat → Option Blk) (e : Env) (c : Chk) : Bool :=
  let go := match e.look c.t, evalOp cf (hideRd e c.hide rd) 0 (visE e (some c.vis)) c.op with
    | some v, some (u, .nop) => v.same u && (match c.op with | .callp _ _ => (blocksOf v).isEmpty | _ => true)
    | _, _ => false
  match c.guard with
  | none => go
  | some (t, want) => match (e.look t).bind (gate want) with
    | some true => go
    | some false => true
    | none => false
def checks (cf : FuncId → List V → Option V) (rd : Nat → Option Blk) (e : Env) : List Chk → Bool
  | [] => true
  | c :: rest => check1 cf rd e c && checks cf rd e rest
def runMO (cf : FuncId → List V → Option V) (cs : CallS) (o : MO) (e : Env) (σ : Store) : Option (Env × Store) :=
  match o.op with
  | .calls f args => match visE e o.vis f, evs (visE e o.vis) args with
    | some (.fn f first cap), some vs => match cs f (first ++ vs ++ cap) σ with
      | some (v, σ') => if σ.length ≤ σ'.length ∧ checks cf σ'.rd (e.put o.dst v) o.chk then some (e.put o.dst v, σ') else none
      | none => none
    | _, _ => none
  | op => match evalOp cf (hideRd e o.hide σ.rd) σ.length (visE e o.vis) op with
    | some (v, f) => if checks cf (apply σ f).rd (e.put o.dst v) o.chk then some (e.put o.dst v, apply σ f) else none
    | none => none
def stepMO (cf : FuncId → List V → Option V) (cs : CallS) (o : MO) (e : Env) (σ : Store) : Option (Env × Store) :=
  match o.guard with
  | none => runMO cf cs o e σ
  | some (t, want) => match (e.look t).bind (gate want) with
    | some true => runMO cf cs o e σ
    | some false => some (e.put o.dst .und, σ)
    | none => none
def evReg (cf : FuncId → List V → Option V) (cs : CallS) : List MO → Env → Store → Option (Env × Store)
  | [], e, σ => some (e, σ)
  | o :: os, e, σ => match stepMO cf cs o e σ with
    | some (e', σ') => evReg cf cs os e' σ'
    | none => none
def evLoop (f : Env → Store → Option (MExit × Env × Store)) : Nat → Env → Store → Option (MExit × Env × Store)
  | 0, _, _ => none
  | n + 1, e, σ => match f e σ with
    | some (.normal, e', σ') => evLoop f n e' σ'
    | r => r
def evCode (cf : FuncId → List V → Option V) (cs : CallS) (n : Nat) : MCode → Env → Store → Option (MExit × Env × Store)
  | .skip, e, σ => some (.normal, e, σ)
  | .reg ops keep, e, σ => match evReg cf cs ops e σ with
    | some (e', σ') => some (.normal, match keep with | some l => e'.keep l | none => e', σ')
    | none => none
  | .seq a b, e, σ => match evCode cf cs n a e σ with
    | some (.normal, e', σ') => evCode cf cs n b e' σ'
    | r => r
  | .cond c a b, e, σ => match e.arg c with
    | some (.bool true) => evCode cf cs n a e σ
    | some (.bool false) => evCode cf cs n b e σ
    | _ => none
  | .block id c, e, σ => match evCode cf cs n c e σ with
    | some (.exit j, e', σ') => some (if j = id then .normal else .exit j, e', σ')
    | r => r
  | .loop c, e, σ => evLoop (evCode cf cs n c) n e σ
  | .exit id, e, σ => some (.exit id, e, σ)
  | .ret, e, σ => some (.ret, e, σ)
  | .bad, _, _ => none
def evRes (rd : Nat → Option Blk) (e : Env) : List (MRes × Nat) → Option (List V)
  | [] => some []
  | (.t n, _) :: rs => match e.look n with
    | some v => (evRes rd e rs).map (v :: ·)
    | none => none
  | (.cell ag sz n, _) :: rs => match evalOp (fun _ _ => none) rd 0 e.arg (.ld ag sz (.t n)) with
    | some (v, _) => (evRes rd e rs).map (v :: ·)
    | none => none
def one : List V → V
  | [v] => v
  | vs => .tup vs
/-- The blocks that a result hands over whole. -/
def owns : List V → List Nat
  | [] => []
  | .ref b _ :: vs => b :: owns vs
  | _ :: vs => owns vs
def exps (rd hid : Nat → Option Blk) : List (V × Nat) → Option (List V)
  | [] => some []
  | (.ref b n, _) :: vs => match rd b with
    | some (.arr sz xs) => if xs.length = n then
        (match deepByss hid (deepCells hid 20) xs with
        | some ys => (exps rd hid vs).map (.lst sz ys :: ·)
        | none => none) else none
    | _ => none
  | (.nils, sz) :: vs => (exps rd hid vs).map (.lst sz [] :: ·)
  | (v, _) :: vs => match toPlain hid v with
    | some u => (exps rd hid vs).map (u :: ·)
    | none => none
def export_ (σ : Store) (vs : List (V × Nat)) : Option V :=
  let o := owns (vs.map (·.1))
  if o.Nodup then (exps σ.rd (fun b => if o.contains b then none else σ.rd b) vs).map one else none
/-- The functions that the reader knows: by their code; by a Lean function (pure; on the store). -/
structure Prog where
  fn : FuncId → Option MFun
  nat : FuncId → Option (List V → Option V)
  nats : FuncId → Option (List V → Store → Option (V × Store))
def params (args : List V) (i : Nat := 0) : Env :=
  match args with
  | [] => []
  | v :: vs => (i, v) :: params vs (i + 1)
mutual
def evRaw (M : Prog) : Nat → FuncId → List V → Store → Option (List (V × Nat) × Store)
  | 0, _, _, _ => none
  | n + 1, f, args, σ => match M.fn f with
    | some m => match evCode (evPure M n) (evShared M n) n m.body (params args) σ with
      | some (.exit _, _, _) => none
      | some (_, e, σ') => (evRes σ'.rd e m.results).map fun vs => (vs.zip (m.results.map (·.2)), σ')
      | none => none
    | none => none
def evPure (M : Prog) : Nat → FuncId → List V → Option V
  | 0, _, _ => none
  | n + 1, f, args => match M.nat f with
    | some g => g args
    | none => match evRaw M n f args [] with
      | some (vs, σ) => export_ σ vs
      | none => none
def evShared (M : Prog) : Nat → FuncId → List V → Store → Option (V × Store)
  | 0, _, _, _ => none
  | n + 1, f, args, σ => match M.nats f with
    | some g => g args σ
    | none => match evRaw M n f args σ with
      | some (vs, σ') => some (one (vs.map (·.1)), σ')
      | none => none
end
end Go.Ev
