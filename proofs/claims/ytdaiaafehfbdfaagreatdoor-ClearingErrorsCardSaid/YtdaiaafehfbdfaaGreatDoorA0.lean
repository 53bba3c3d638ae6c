/- Maps of bools whose keys are whole numbers or structs of whole numbers. -/
import Derived.Orders
import Derived.Laws.Entries
import Derived.KernelRfl
import Derived.Laws.StructEq
import Derived.Attr
import Derived.Below
import Derived.OwnWalk
import Derived.Laws.Slices
import Derived.Laws.MakeOwn
import Derived.Laws.BytesArg
import Derived.Maps.AppendAt
import Derived.Great.BuildSlice
import Derived.Laws.Cover3
import Derived.Laws.Tables
import Derived.MapKept
import Derived.WideKeyRuns
set_option maxRecDepth 4000
set_option linter.unusedVariables false
set_option linter.unusedSimpArgs false
set_option linter.unnecessarySimpa false
set_option linter.unusedSectionVars false
/-! An abstract machine for loaded Go functions: values without addresses, own objects by number, foreign memory as trees. -/
namespace Go.Proofs.Vm
open Go

/-! ### 1. Values, objects -/
inductive V where
  | lit (v : Value)                       -- a value without an address
  | agg (l : List V)                      -- a struct: its cells
  | tup (l : List V)                      -- several results
  | zsl                                   -- a slice of length 0 and capacity 0
  | osl (h off len : Nat)                 -- a slice of an own object, from a cell on
  | fsl (t : Bool) (l : List V) (len : Nat)   -- a slice that is only read: its cells
  | optr (h off : Nat)                    -- a pointer to a cell of an own object
  | fptr (t : Bool) (l : List V) (off : Nat)  -- a pointer that is only read through: all cells, and where it points
  | clo (f : FuncId) (caps : List V)      -- a function value
  | omap (h : Nat)                        -- an own map
  deriving Inhabited

inductive O where
  | cells (l : List V) (t : TypeId) (sz : Nat)
  | map (n : Nat) (es : List (List Int × Bool))     -- keys: a whole number (n = 0), or a struct of n whole numbers
  | dead
  | hole
  deriving Inhabited

abbrev V.int (n : Int) : V := .lit (.int .i64 n)
abbrev V.bool (b : Bool) : V := .lit (.bool b)
abbrev V.str (s : ByteArray) : V := .lit (.string s)
abbrev V.nils : V := .lit (.slice none 0 0)
abbrev V.none_ : V := .lit (.tuple #[])

/-! ### 2. Instructions -/
inductive Opd where
  | t (n : Nat)
  | c (v : V)
  deriving Inhabited

/-- What makes one object. -/
inductive Alc where
  | new (z : List V) (t : TypeId)
  | bsl (t : TypeId) (sz len : Nat) (z : List V) (parts : List (Nat × Nat × Opd))
  | mk (t : TypeId) (sz bytes : Nat) (z : List V) (n c : Opd)
  | appn (t : TypeId) (sz bytes : Nat) (y : Opd)
  deriving Inhabited

inductive Ins where
  | mv (x : Opd)
  | pick (c a b : Opd)
  | bin (op : BinOp) (x y : Opd)
  | beq (neg : Bool) (x y : Opd)
  | aeq (neg : Bool) (ks : List Nat) (x y : Opd)
  | snil (neg : Bool) (x : Opd)
  | un (op : UnOp) (x : Opd)
  | wrap (k : IntKind) (x : Opd)
  | str (x : Opd)
  | sst (x : Opd)
  | new (z : List V) (t : TypeId)
  | box (x : Opd) (t : TypeId)
  | build (z : List V) (parts : List (Nat × Nat × Opd))
  | bsl (t : TypeId) (sz len : Nat) (z : List V) (parts : List (Nat × Nat × Opd))
  | ld (sz : Option Nat) (x : Opd)
  | st (sz : Nat) (x y : Opd)
  | nilc (x : Opd)
  | off (o : Nat) (x : Opd)
  | fld (o : Nat) (sz : Option Nat) (x : Opd)
  | ia (sz : Nat) (x i : Opd)
  | iaa (sz n : Nat) (x i : Opd)
  | bsz (t : TypeId) (sz : Nat)
  | stD (ks : List Nat) (sz : Nat) (x y : Opd)
  | appD (ks : List Nat) (t : TypeId) (sz bytes : Nat) (x y : Opd)
  | idx (x i : Opd)
  | ixa (sz : Option Nat) (n : Nat) (x i : Opd)
  | len (x : Opd)
  | slen (x : Opd)
  | cap (x : Opd)
  | app (t : TypeId) (sz bytes : Nat) (x y : Opd)
  | mk (t : TypeId) (sz bytes : Nat) (z : List V) (n c : Opd)
  | slc (sz : Nat) (x : Opd) (lo hi mx : Option Opd)
  | sls (x : Opd) (lo hi : Option Opd)
  | ext (i : Nat) (x : Opd)
  | appz (t : TypeId) (sz bytes : Nat) (z : List V) (x n : Opd)
  | clr (sz : Nat) (z : List V) (x : Opd)
  | mkm (n : Nat)
  | lkm (n : Nat) (x k : Opd)
  | upm (n : Nat) (x k v : Opd)
  | clo (f : FuncId) (caps : List Opd)
  | call (f : FuncId) (args : List Opd)
  | callv (x : Opd) (args : List Opd)
  | fill (p : Nat) (a : Alc)
  | bad
  deriving Inhabited

def Ins.isCall : Ins → Bool
  | .call _ _ | .callv _ _ => true
  | _ => false

structure In where
  d : Option Nat
  g : Option (Nat × Bool)
  i : Ins
  deriving Inhabited

inductive B where
  | ops (l : List In)
  | rsv (k : Nat) (l : List In)
  | seq (a b : B)
  | cond (c : Opd) (x y : B)
  | block (id : Nat) (b : B)
  | loop (b : B)
  | exit (id : Nat)
  | ret
  | skip
  deriving Inhabited

inductive Res where
  | t (n : Nat)
  | cell (n : Nat) (sz : Option Nat)
  deriving Inhabited

structure Fn where
  n : Nat
  body : B
  res : List Res
  deriving Inhabited

/-! ### 3. What an instruction does -/
def Opd.ev (s : Nat → V) : Opd → V
  | .t n => s n
  | .c v => v

def upd (s : Nat → V) (d : Nat) (v : V) (t : Nat) : V := if t = d then v else s t
def put (s : Nat → V) (d : Option Nat) (v : V) : Nat → V :=
  match d with
  | some d => upd s d v
  | none => s

def wantB (s : Nat → V) (g : Option (Nat × Bool)) : Bool :=
  match g with
  | none => true
  | some (t, b) => match s t with
    | .lit (.bool c) => c == b
    | _ => false

def binI (op : BinOp) (k : IntKind) (a b : Int) : Option Value :=
  match op with
  | .add => some (.int k (k.wrap (a + b)))
  | .sub => some (.int k (k.wrap (a - b)))
  | .mul => some (.int k (k.wrap (a * b)))
  | .quo => if b = 0 then none else some (.int k (k.wrap (a.tdiv b)))
  | .rem => if b = 0 then none else some (.int k (a.tmod b))
  | .and => some (.int k (bits .and k a b))
  | .or => some (.int k (bits .or k a b))
  | .xor => some (.int k (bits .xor k a b))
  | .andNot => some (.int k (bits .andNot k a b))
  | .eql => some (.bool (a == b))
  | .neq => some (.bool (a != b))
  | .lss => some (.bool (decide (a < b)))
  | .leq => some (.bool (decide (a ≤ b)))
  | .gtr => some (.bool (decide (a > b)))
  | .geq => some (.bool (decide (a ≥ b)))
  | .shl => if b < 0 then none else some (.int k (k.wrap (a * 2 ^ min b.toNat k.bits)))
  | .shr => if b < 0 then none else some (.int k (a.fdiv (2 ^ min b.toNat k.bits)))

def binV (op : BinOp) (x y : V) : Option V :=
  match x, y with
  | .lit (.int k a), .lit (.int k' b) =>
    match op with
    | .shl | .shr => (binI op k a b).map .lit
    | _ => if k = k' then (binI op k a b).map .lit else none
  | .lit (.string a), .lit (.string b) =>
    match op with
    | .eql => some (.bool (a.toList == b.toList))
    | .neq => some (.bool (!(a.toList == b.toList)))
    | _ => none
  | _, _ => none

/-- Equality of cells that are whole numbers, bools or strings. -/
def leafEq : Nat → V → V → Option Bool
  | 0, .lit (.int k a), .lit (.int k' b) => if k = k' then some (a == b) else none
  | 1, .lit (.bool a), .lit (.bool b) => some (a == b)
  | 2, .lit (.string a), .lit (.string b) => some (a == b)
  | _, _, _ => none
def leavesEq : List Nat → List V → List V → Option Bool
  | [], [], [] => some true
  | k :: ks, x :: xs, y :: ys => match leafEq k x y with
    | some true => leavesEq ks xs ys
    | some false => some false
    | none => none
  | _, _, _ => none

def unV (op : UnOp) (x : V) : Option V :=
  match op, x with
  | .not, .lit (.bool b) => some (.bool (!b))
  | .neg, .lit (.int k n) => some (.lit (.int k (k.wrap (0 - n))))
  | .xor, .lit (.int k n) => some (.lit (.int k (bits .xor k (if k.signed then -1 else k.max) n)))
  | _, _ => none

def V.cells : V → List V
  | .agg l => l
  | .lit (.agg cs) => cs.toList.map .lit
  | v => [v]
/-- A value that one cell can hold. -/
def V.leaf : V → Bool
  | .agg _ | .tup _ | .lit (.agg _) | .lit (.tuple _) => false
  | _ => true

/-! Keys of maps. -/
def intsV : List V → Option (List Int)
  | [] => some []
  | .lit (.int .i64 a) :: l => (intsV l).map (a :: ·)
  | _ => none
def keyI : Nat → V → Option (List Int)
  | 0, .lit (.int .i64 a) => some [a]
  | n + 1, .agg l => if l.length = n + 1 then intsV l else none
  | _, _ => none
def lookM (k : List Int) : List (List Int × Bool) → Bool
  | [] => false
  | (k', b) :: l => if k' = k then b else lookM k l
def putM (k : List Int) (b : Bool) : List (List Int × Bool) → List (List Int × Bool)
  | [] => [(k, b)]
  | (k', c) :: l => if k' = k then (k', b) :: l else (k', c) :: putM k b l

/-- Parts laid over cells. -/
def fillV (s : Nat → V) : List V → List (Nat × Nat × Opd) → Option (List V)
  | cs, [] => some cs
  | cs, (off, sz, x) :: rest =>
    let v := (x.ev s).cells
    if v.length = sz ∧ off + sz ≤ cs.length then fillV s (cs.take off ++ v ++ cs.drop (off + sz)) rest else none

def readV (l : List V) (off : Nat) : Option Nat → Option V
  | none => l[off]?
  | some n => if off + n ≤ l.length then some (.agg ((l.drop off).take n)) else none

def getO (H : List O) (h : Nat) : Option (List V × TypeId × Nat) :=
  match H[h]? with
  | some (.cells l t sz) => some (l, t, sz)
  | _ => none

def szO (H : List O) (h : Nat) : Option Nat := (getO H h).map fun p => p.2.2

/-- The cells of a slice, and its length. -/
def sliceV (H : List O) (sz : Nat) : V → Option (List V × Nat)
  | .lit (.slice none 0 0) => some ([], 0)
  | .zsl => some ([], 0)
  | .osl h off len => match getO H h with
    | some (l, _, z) => if z = sz ∧ off + len * sz ≤ l.length then some ((l.drop off).take (len * sz), len) else none
    | none => none
  | .fsl _ l len => if l.length = len * sz then some (l, len) else none
  | _ => none

def lenV : V → Option Nat
  | .lit (.slice none 0 0) => some 0
  | .zsl => some 0
  | .osl _ _ len => some len
  | .fsl _ _ len => some len
  | _ => none

def bytesV : List V → Option (List UInt8)
  | [] => some []
  | .lit (.int .u8 n) :: l => (bytesV l).map (UInt8.ofNat n.toNat :: ·)
  | _ => none

def optI (s : Nat → V) (d : Int) : Option Opd → Option Int
  | none => some d
  | some x => match x.ev s with
    | .lit (.int _ n) => some n
    | _ => none

def apartV : V → V → Bool
  | .optr h _, .optr k _ => h != k
  | .optr h _, .osl k _ _ => h != k
  | .fptr _ _ _, .optr _ _ => true
  | .fptr _ _ _, .osl _ _ _ => true
  | _, .lit _ => true
  | _, .zsl => true
  | _, _ => false
def evSt (sz : Nat) (x y : V) (H : List O) : Option (V × List O) := match x with
  | .optr h o => match H[h]? with
    | some (.cells l t z) => let v := y.cells
      if v.length = sz ∧ o + sz ≤ l.length ∧ v.all V.leaf = true then some (.none_, H.set h (.cells (l.take o ++ v ++ l.drop (o + sz)) t z)) else none
    | _ => none
  | _ => none
def evApp (t : TypeId) (sz bytes : Nat) (x y : V) (H : List O) : Option (V × List O) := match sliceV H sz y with
  | some (ys, m) =>
    match x with
    | .lit (.slice none 0 0) => if m = 0 then some (.nils, H) else if m * bytes ≤ 140737488355328 ∧ ys.all V.leaf = true then some (.osl H.length 0 m, H ++ [.cells ys t sz]) else none
    | .zsl => if m = 0 then some (.zsl, H) else if m * bytes ≤ 140737488355328 ∧ ys.all V.leaf = true then some (.osl H.length 0 m, H ++ [.cells ys t sz]) else none
    | .osl h 0 n => match H[h]? with
      | some (.cells l t' z) => if t' = t ∧ z = sz ∧ n * sz ≤ l.length ∧ (n + m) * bytes ≤ 140737488355328 ∧ ys.all V.leaf = true then
          some (.osl H.length 0 (n + m), H.set h .dead ++ [.cells (l.take (n * sz) ++ ys) t sz]) else none
      | _ => none
    | _ => none
  | none => none

/-- What it makes: a value for any number, and the object, if there is one. -/
def evN (a : Alc) (s : Nat → V) (H : List O) : Option ((Nat → V) × Option O) :=
  match a with
  | .new z t => some (fun p => .optr p 0, some (.cells z t z.length))
  | .bsl t sz len z parts => match fillV s ((List.replicate len z).flatten) parts with
    | some l => if l.all V.leaf then some (fun p => .osl p 0 len, some (.cells l t sz)) else none
    | none => none
  | .mk t sz bytes z n c => match n.ev s, c.ev s with
    | .lit (.int .i64 a), .lit (.int .i64 b) => if 0 ≤ a ∧ a ≤ b ∧ b * bytes ≤ 140737488355328 then
        some (fun p => .osl p 0 a.toNat, some (.cells ((List.replicate b.toNat z).flatten) t sz)) else none
    | _, _ => none
  | .appn t sz bytes y => match sliceV H sz (y.ev s) with
    | some (ys, m) => if m = 0 then some (fun _ => .nils, none) else if m * bytes ≤ 140737488355328 ∧ ys.all V.leaf = true then some (fun p => .osl p 0 m, some (.cells ys t sz)) else none
    | none => none
def evFill (p : Nat) (a : Alc) (s : Nat → V) (H : List O) : Option (V × List O) :=
  match H[p]? with
  | some .hole => match evN a s H with
    | some (f, some o) => some (f p, H.set p o)
    | some (f, none) => some (f p, H)
    | none => none
  | _ => none

def evI (i : Ins) (s : Nat → V) (H : List O) : Option (V × List O) :=
  match i with
  | .mv x => some (x.ev s, H)
  | .pick c a b => match c.ev s with
    | .lit (.bool t) => some (if t then a.ev s else b.ev s, H)
    | _ => none
  | .bin op x y => (binV op (x.ev s) (y.ev s)).map (·, H)
  | .beq neg x y => match x.ev s, y.ev s with
    | .lit (.bool a), .lit (.bool b) => some (.bool (if neg then !(a == b) else a == b), H)
    | _, _ => none
  | .aeq neg ks x y => match x.ev s, y.ev s with
    | .agg a, .agg b => if a.length = ks.length ∧ b.length = ks.length then (leavesEq ks a b).map fun r => (.bool (if neg then !r else r), H) else none
    | _, _ => none
  | .snil neg x => match x.ev s with
    | .lit (.slice none 0 0) => some (.bool (!neg), H)
    | .osl _ _ _ => some (.bool neg, H)
    | .fsl _ l _ => if 0 < l.length then some (.bool neg, H) else none
    | _ => none
  | .un op x => (unV op (x.ev s)).map (·, H)
  | .wrap k x => match x.ev s with
    | .lit (.int _ n) => some (.lit (.int k (k.wrap n)), H)
    | _ => none
  | .str x => match sliceV H 1 (x.ev s) with
    | some (l, _) => (bytesV l).map fun b => (.str ⟨b.toArray⟩, H)
    | none => none
  | .sst x => match x.ev s with
    | .lit (.string t) => some (.str t, H)
    | _ => none
  | .new z t => some (.optr H.length 0, H ++ [.cells z t z.length])
  | .box x t => let l := (x.ev s).cells
    if l.all V.leaf ∧ 0 < l.length then some (.optr H.length 0, H ++ [.cells l t l.length]) else none
  | .build z parts => (fillV s z parts).map fun l => (.agg l, H)
  | .bsl t sz len z parts => match fillV s ((List.replicate len z).flatten) parts with
    | some l => if l.all V.leaf then some (.osl H.length 0 len, H ++ [.cells l t sz]) else none
    | none => none
  | .ld sz x => match x.ev s with
    | .optr h o => match getO H h with
      | some (l, _, _) => (readV l o sz).map (·, H)
      | none => none
    | .fptr _ l o => (readV l o sz).map (·, H)
    | _ => none
  | .st sz x y => match x.ev s with
    | .optr h o => match H[h]? with
      | some (.cells l t z) => let v := (y.ev s).cells
        if v.length = sz ∧ o + sz ≤ l.length ∧ v.all V.leaf = true then some (.none_, H.set h (.cells (l.take o ++ v ++ l.drop (o + sz)) t z)) else none
      | _ => none
    | _ => none
  | .nilc x => match x.ev s with
    | .optr h o => some (.optr h o, H)
    | .fptr t l o => some (.fptr t l o, H)
    | _ => none
  | .off k x => match x.ev s with
    | .optr h o => some (.optr h (o + k), H)
    | .fptr t l o => some (.fptr t l (o + k), H)
    | _ => none
  | .fld o sz x => match x.ev s with
    | .agg l => (readV l o sz).map (·, H)
    | _ => none
  | .ia sz x i => match i.ev s with
    | .lit (.int _ n) => match x.ev s with
      | .osl h off len => if 0 ≤ n ∧ n < len then some (.optr h (off + n.toNat * sz), H) else none
      | .fsl t l len => if 0 ≤ n ∧ n < len ∧ n.toNat * sz < l.length then some (.fptr t l (n.toNat * sz), H) else none
      | _ => none
    | _ => none
  | .iaa sz n x i => match i.ev s with
    | .lit (.int _ k) => if 0 ≤ k ∧ k < n then (match x.ev s with
        | .optr h o => some (.optr h (o + k.toNat * sz), H)
        | .fptr t l o => some (.fptr t l (o + k.toNat * sz), H)
        | _ => none) else none
    | _ => none
  | .bsz t sz => some (.zsl, H ++ [.cells [] t sz])
  | .fill p a => evFill p a s H
  | .stD ks sz x y => if ks.all (fun k => apartV (s k) (x.ev s)) then evSt sz (x.ev s) (y.ev s) H else none
  | .appD ks t sz bytes x y => if ks.all (fun k => apartV (s k) (x.ev s)) then evApp t sz bytes (x.ev s) (y.ev s) H else none
  | .idx x i => match x.ev s, i.ev s with
    | .lit (.string b), .lit (.int _ n) => if 0 ≤ n then match b[n.toNat]? with
        | some c => some (.lit (.int .u8 c.toNat), H)
        | none => none
      else none
    | _, _ => none
  | .ixa sz n x i => match x.ev s, i.ev s with
    | .agg l, .lit (.int _ k) => if 0 ≤ k ∧ k < n then (readV l (k.toNat * sz.getD 1) sz).map (·, H) else none
    | _, _ => none
  | .len x => (lenV (x.ev s)).map fun (n : Nat) => (.int n, H)
  | .slen x => match x.ev s with
    | .lit (.string t) => some (.int t.size, H)
    | _ => none
  | .sls x lo hi => match x.ev s with
    | .lit (.string t) => match optI s 0 lo, optI s t.size hi with
      | some a, some b => if 0 ≤ a ∧ a ≤ b ∧ b ≤ t.size then some (.str (t.extract a.toNat b.toNat), H) else none
      | _, _ => none
    | _ => none
  | .cap x => match x.ev s with
    | .lit (.slice none 0 0) => some (.int 0, H)
    | .zsl => some (.int 0, H)
    | _ => none
  | .app t sz bytes x y => match sliceV H sz (y.ev s) with
    | some (ys, m) =>
      match x.ev s with
      | .lit (.slice none 0 0) => if m = 0 then some (.nils, H) else if m * bytes ≤ 140737488355328 ∧ ys.all V.leaf = true then some (.osl H.length 0 m, H ++ [.cells ys t sz]) else none
      | .zsl => if m = 0 then some (.zsl, H) else if m * bytes ≤ 140737488355328 ∧ ys.all V.leaf = true then some (.osl H.length 0 m, H ++ [.cells ys t sz]) else none
      | .osl h 0 n => match H[h]? with
        | some (.cells l t' z) => if t' = t ∧ z = sz ∧ n * sz ≤ l.length ∧ (n + m) * bytes ≤ 140737488355328 ∧ ys.all V.leaf = true then
            some (.osl H.length 0 (n + m), H.set h .dead ++ [.cells (l.take (n * sz) ++ ys) t sz]) else none
        | _ => none
      | _ => none
    | none => none
  | .mk t sz bytes z n c => match n.ev s, c.ev s with
    | .lit (.int .i64 a), .lit (.int .i64 b) => if 0 ≤ a ∧ a ≤ b ∧ b * bytes ≤ 140737488355328 then
        some (.osl H.length 0 a.toNat, H ++ [.cells ((List.replicate b.toNat z).flatten) t sz]) else none
    | _, _ => none
  | .slc sz x lo hi mx => match mx with
    | some m => match optI s 0 lo, optI s (-1) hi, m.ev s with
      | some 0, some 0, .lit (.int _ 0) => match lenV (x.ev s) with
        | some _ => (match x.ev s with
          | .lit (.slice none 0 0) => some (.nils, H)
          | .lit _ => none
          | _ => some (.zsl, H))
        | none => none
      | _, _, _ => none
    | none => match lenV (x.ev s) with
      | some len => match optI s 0 lo, optI s len hi with
        | some a, some b => if 0 ≤ a ∧ a ≤ b ∧ b ≤ len then
            (match x.ev s with
            | .lit _ => some (.nils, H)
            | .zsl => some (.zsl, H)
            | .osl h off _ => if a = b ∧ a ≠ 0 then some (.fsl true [] 0, H) else if a = 0 ∨ szO H h = some sz then some (.osl h (off + a.toNat * sz) (b - a).toNat, H) else none
            | .fsl t l n => if l.length = n * sz then some (.fsl t ((l.drop (a.toNat * sz)).take ((b - a).toNat * sz)) (b - a).toNat, H) else none
            | _ => none) else none
        | _, _ => none
      | none => none
  | .ext i x => match x.ev s with
    | .tup l => (l[i]?).map (·, H)
    | _ => none
  | .clo f caps => some (.clo f (caps.map (·.ev s)), H)
  | .appz t sz bytes z x n => match x.ev s, n.ev s with
    | .lit (.slice none 0 0), .lit (.int .i64 k) => if 0 < k ∧ k * bytes ≤ 140737488355328 then some (.osl H.length 0 k.toNat, H ++ [.cells ((List.replicate k.toNat z).flatten) t sz]) else none
    | _, _ => none
  | .clr sz z x => match x.ev s with
    | .lit (.slice none 0 0) => some (.none_, H)
    | .zsl => some (.none_, H)
    | .osl h off len => match H[h]? with
      | some (.cells l t z') => if z' = sz ∧ off + len * sz ≤ l.length then some (.none_, H.set h (.cells (l.take off ++ (List.replicate len z).flatten ++ l.drop (off + len * sz)) t z')) else none
      | _ => none
    | _ => none
  | .mkm n => some (.omap H.length, H ++ [.map n []])
  | .lkm n x k => match x.ev s with
    | .omap h => match H[h]?, keyI n (k.ev s) with
      | some (.map n' es), some key => if n' = n then some (.bool (lookM key es), H) else none
      | _, _ => none
    | _ => none
  | .upm n x k v => match x.ev s, v.ev s with
    | .omap h, .lit (.bool b) => match H[h]?, keyI n (k.ev s) with
      | some (.map n' es), some key => if n' = n then some (.none_, H.set h (.map n (putM key b es))) else none
      | _, _ => none
    | _, _ => none
  | .call _ _ | .callv _ _ | .bad => none

theorem evSt_eq {sz : Nat} {x y : Opd} {s : Nat → V} {H : List O} : evSt sz (x.ev s) (y.ev s) H = evI (.st sz x y) s H := rfl
theorem evApp_eq {t : TypeId} {sz bytes : Nat} {x y : Opd} {s : Nat → V} {H : List O} : evApp t sz bytes (x.ev s) (y.ev s) H = evI (.app t sz bytes x y) s H := rfl

abbrev St := (Nat → V) × List O
abbrev Callee := FuncId → List V → List O → Option (V × List O)

def evO (call : Callee) (i : In) (st : St) : Option St :=
  if wantB st.1 i.g then
    match i.i with
    | .call f args => (call f (args.map (·.ev st.1)) st.2).map fun r => (put st.1 i.d r.1, r.2)
    | .callv x args => match x.ev st.1 with
      | .clo f caps => (call f (args.map (·.ev st.1) ++ caps) st.2).map fun r => (put st.1 i.d r.1, r.2)
      | _ => none
    | j => (evI j st.1 st.2).map fun r => (put st.1 i.d r.1, r.2)
  else some (put st.1 i.d .none_, st.2)

def evL (call : Callee) : List In → St → Option St
  | [], st => some st
  | i :: l, st => match evO call i st with
    | some st => evL call l st
    | none => none

/-- Numbers counted from a base on. -/
def In.shift (b : Nat) (i : In) : In := match i.i with
  | .fill p j => ⟨i.d, i.g, .fill (b + p) j⟩
  | _ => i

inductive Ex where
  | normal
  | exit (id : Nat)
  | ret
  deriving DecidableEq, Inhabited

def evB (call : Callee) : Nat → B → St → Option (Ex × St)
  | 0, _, _ => none
  | n + 1, b, st => match b with
    | .ops l => (evL call l st).map (.normal, ·)
    | .rsv k l => (evL call (l.map (In.shift st.2.length)) (st.1, st.2 ++ List.replicate k .hole)).map (.normal, ·)
    | .skip => some (.normal, st)
    | .ret => some (.ret, st)
    | .exit id => some (.exit id, st)
    | .seq a b => match evB call n a st with
      | some (.normal, st) => evB call n b st
      | r => r
    | .cond c x y => match c.ev st.1 with
      | .lit (.bool t) => evB call n (if t then x else y) st
      | _ => none
    | .block id b => match evB call n b st with
      | some (.exit id', st) => if id' = id then some (.normal, st) else some (.exit id', st)
      | r => r
    | .loop b => match evB call n b st with
      | some (.normal, st) => evB call n (.loop b) st
      | r => r

def evR (s : Nat → V) (H : List O) : Res → Option V
  | .t n => some (s n)
  | .cell n sz => match s n with
    | .optr h o => (getO H h).bind fun (l, _, _) => readV l o sz
    | _ => none
def evRs (s : Nat → V) (H : List O) : List Res → Option (List V)
  | [] => some []
  | r :: l => match evR s H r, evRs s H l with
    | some v, some vs => some (v :: vs)
    | _, _ => none
def one (l : List V) : V := match l with
  | [v] => v
  | l => .tup l

def argsAt (args : List V) (t : Nat) : V := args.getD t .none_

def evF (call : Callee) (n : Nat) (f : Fn) (args : List V) (H : List O) : Option (V × List O) :=
  match evB call n f.body (argsAt args, H) with
  | some (.normal, s, H) | some (.ret, s, H) => (evRs s H f.res).map fun vs => (one vs, H)
  | _ => none

/-! ### 4. Calls that only read: what is handed over is laid open as foreign; what comes back is foreign -/
def frz (H : List O) : Nat → V → Option V
  | 0, _ => none
  | n + 1, v => match v with
    | .lit v => some (.lit v)
    | .zsl => some .zsl
    | .fsl t l len => some (.fsl t l len)
    | .fptr t l o => some (.fptr t l o)
    | .agg l => (l.mapM (frz H n)).map .agg
    | .tup l => (l.mapM (frz H n)).map .tup
    | .osl h off len => match getO H h with
      | some (l, _, sz) => if off + len * sz ≤ l.length then (((l.drop off).take (len * sz)).mapM (frz H n)).map fun l => .fsl true l len else none
      | none => none
    | .optr h o => match getO H h with
      | some (l, _, _) => (l.mapM (frz H n)).map fun l => .fptr true l o
      | none => none
    | .clo _ _ | .omap _ => none
/-- What a call hands back. -/
def out (H : List O) : Nat → V → Option V
  | 0, _ => none
  | n + 1, v => match v with
    | .lit v => some (.lit v)
    | .zsl => some .zsl
    | .fsl false l len => some (.fsl false l len)
    | .fptr false l o => some (.fptr false l o)
    | .agg l => (l.mapM (out H n)).map .agg
    | .tup l => (l.mapM (out H n)).map .tup
    | .osl h off len => match getO H h with
      | some (l, _, sz) => if off + len * sz ≤ l.length then (((l.drop off).take (len * sz)).mapM (out H n)).map fun l => .fsl false l len else none
      | none => none
    | .optr h o => match getO H h with
      | some (l, _, _) => (l.mapM (out H n)).map fun l => .fptr false l o
      | none => none
    | _ => none

/-- A function of the program: its code, and whether a call of it only reads; or what is known of it. -/
inductive Def where
  | code (pure : Bool) (f : Fn)
  | ext (f : List V → List O → Option (V × List O))
  deriving Inhabited

def depth : Nat := 12

def run (D : FuncId → Option Def) : Nat → Callee
  | 0, _, _, _ => none
  | n + 1, f, args, H => match D f with
    | some (.code false fn) => evF (run D n) n fn args H
    | some (.code true fn) => match args.mapM (frz H depth) with
      | some as => match evF (run D n) n fn as [] with
        | some (r, H1) => (out H1 depth r).map (·, H)
        | none => none
      | none => none
    | some (.ext g) => g args H
    | none => none
end Go.Proofs.Vm
/-! The abstract machine's code out of a loaded function: by a total function; what it does not know becomes 'bad', which never runs. -/
namespace Go.Proofs.Vm
open Go

def ofVal : Value → V
  | .agg cs => .agg (cs.toList.map .lit)
  | v => .lit v

def opd : Operand → Option Opd
  | .tmp t => some (.t t)
  | .const v => some (.c (ofVal v))
  | .func f => some (.c (.clo f []))
  | .global _ => none
def opds (l : Array Operand) : Option (List Opd) := l.toList.mapM opd
def opdO : Option Operand → Option (Option Opd)
  | none => some none
  | some x => (opd x).map some

section
variable (P : Program)

/-- How a variable of a type is read: one cell, or a number of cells. -/
def szT (t : TypeId) : Option (Option Nat) :=
  match P.underlying t, P.info? t with
  | some (.struct _), some i => some (some i.size)
  | some (.array _ _), some i => some (some i.size)
  | some _, some _ => some none
  | _, _ => none
def zeroT (t : TypeId) : Option (List V) :=
  match P.info? t with
  | some i => match i.zero with
    | some z => if z.cells.size = i.size ∧ (z.cells.toList.map V.lit).all V.leaf = true ∧ 0 < i.size then some (z.cells.toList.map .lit) else none
    | none => none
  | none => none
def sliceT (t : TypeId) : Option (TypeId × Nat × Nat) :=
  match P.underlying t with
  | some (.slice e) => match P.info? e with
    | some i => if 0 < i.size ∧ 0 < i.bytes then some (e, i.size, i.bytes) else none
    | none => none
  | _ => none
def fieldT (s : TypeId) (f : Nat) : Option Field :=
  match P.underlying s with
  | some (.struct fs) => fs[f]?
  | _ => none
def leafT (t : TypeId) : Option Nat :=
  match P.underlying t with
  | some (.int _) => some 0
  | some .bool => some 1
  | some .string => some 2
  | _ => none
/-- A struct of whole numbers, bools and strings alone. -/
def plainT (t : TypeId) : Bool :=
  match P.underlying t with
  | some (.struct fs) => !P.stoodInHeld t && !P.eqGuardType P.depth t && fs.toList.zipIdx.all fun (f, j) => f.name != "_" && f.offset == j && (leafT P f.type).isSome
  | _ => false

/-- A map of bools: 0 if its keys are whole numbers, n if they are structs of n whole numbers. -/
def mapT (t : TypeId) : Option Nat :=
  match P.underlying t with
  | some (.map k e) => match P.underlying e, (P.info? e).bind (·.zero) with
    | some .bool, some (.bool false) => match P.underlying k with
      | some (.int .i64) => some 0
      | some (.struct fs) => if plainT P k && decide (0 < fs.size) && fs.toList.all (fun f => leafT P f.type == some 0) then some fs.size else none
      | _ => none
    | _, _ => none
  | _ => none

def partsS (fs : Array Field) : List (Nat × Operand) → Option (List (Nat × Nat × Opd))
  | [] => some []
  | (i, x) :: l => match fs[i]?, opd x, partsS fs l with
    | some f, some x, some l => match P.info? f.type with
      | some j => some ((f.offset, j.size, x) :: l)
      | none => none
    | _, _, _ => none
def partsE (sz : Nat) : List (Nat × Operand) → Option (List (Nat × Nat × Opd))
  | [] => some []
  | (i, x) :: l => match opd x, partsE sz l with
    | some x, some l => some ((i * sz, sz, x) :: l)
    | _, _ => none

def eqOp (f : Bool → Ins) : BinOp → Option Ins
  | .eql => some (f false)
  | .neq => some (f true)
  | _ => none
def isNil : Opd → Bool
  | .c (.lit (.slice none 0 0)) => true
  | _ => false

def insC (o : Op) : Option Ins :=
  match o with
  | .move x | .assign x => (opd x).map .mv
  | .pick c a b => do some (.pick (← opd c) (← opd a) (← opd b))
  | .alloc e => do some (.new (← zeroT P e) e)
  | .box e x => do some (.box (← opd x) e)
  | .build t parts => match P.underlying t with
    | some (.struct fs) => if fs.toList.all (fun f => (P.info? f.type).isSome) then do some (.build (← zeroT P t) (← partsS P fs parts.toList)) else none
    | some (.array _ e) => do
      let z ← zeroT P t
      let i ← P.info? e
      some (.build z (← partsE i.size parts.toList))
    | _ => none
  | .buildSlice t n parts => do
    let (e, sz, _) ← sliceT P t
    if n = 0 ∧ parts.size = 0 then some (.bsz e sz) else if n * sz ≤ 2 ^ 24 ∧ 0 < n then some (.bsl e sz n (← zeroT P e) (← partsE sz parts.toList)) else none
  | .load t a => do some (.ld (← szT P t) (← opd a))
  | .store t a x => do
    let i ← P.info? t
    some (.st i.size (← opd a) (← opd x))
  | .nilCheck x => do some (.nilc (← opd x))
  | .binOp op t x y _ => do
    let x ← opd x
    let y ← opd y
    match P.underlying t with
    | some (.int _) | some .string => some (.bin op x y)
    | some .bool => eqOp (.beq · x y) op
    | some (.struct _) => if plainT P t then eqOp (.aeq · ((P.fieldsOf t).toList.map fun f => (leafT P f.type).getD 3) x y) op else none
    | some (.slice _) => if isNil y then eqOp (.snil · x) op else none
    | _ => none
  | .unOp op _ x => do some (.un op (← opd x))
  | .convert src dst x => do
    let x ← opd x
    match P.underlying src, P.underlying dst with
    | some (.int _), some (.int k) => some (.wrap k x)
    | some .string, some .string => some (.sst x)
    | some (.slice e), some .string => match P.underlying e with
      | some (.int .u8) => some (.str x)
      | _ => none
    | _, _ => none
  | .makeFunc fn first captured => match fn with
    | .func f => if first.size = 0 then do some (.clo f (← opds captured)) else none
    | _ => none
  | .makeMap t none => match P.underlying t with
    | some (.map _ _) => (mapT P t).map .mkm
    | _ => none
  | .makeSlice t l c => do
    let (e, sz, by_) ← sliceT P t
    some (.mk e sz by_ (← zeroT P e) (← opd l) (← opd c))
  | .slice t x lo hi mx => do
    let x ← opd x
    let lo ← opdO lo
    let hi ← opdO hi
    let mx ← opdO mx
    match P.underlying t with
    | some .string => match mx with
      | none => some (.sls x lo hi)
      | some _ => none
    | some (.slice e) => do
      let i ← P.info? e
      some (.slc i.size x lo hi mx)
    | _ => none
  | .fieldAddr s x f => do
    let fl ← fieldT P s f
    let i ← P.info? fl.type
    if i.size = 0 then none else some (.off fl.offset (← opd x))
  | .field s x f => do
    let fl ← fieldT P s f
    some (.fld fl.offset (← szT P fl.type) (← opd x))
  | .indexAddr t x i => match P.underlying t with
    | some (.array n e) => do
      let j ← P.info? e
      some (.iaa j.size n (← opd x) (← opd i))
    | _ => do
      let (_, sz, _) ← sliceT P t
      some (.ia sz (← opd x) (← opd i))
  | .index t x i => match P.underlying t with
    | some .string => do some (.idx (← opd x) (← opd i))
    | some (.array n e) => do
      let x ← opd x
      let i ← opd i
      let sz ← szT P e
      match sz with
      | none => match P.info? e with
        | some j => if j.size = 1 then some (.ixa none n x i) else none
        | none => none
      | some k => some (.ixa (some k) n x i)
    | _ => none
  | .extract t i => do some (.ext i (← opd t))
  | .lookup t x k ok => if ok then none else do some (.lkm (← mapT P t) (← opd x) (← opd k))
  | .mapUpdate t m k x => do some (.upm (← mapT P t) (← opd m) (← opd k) (← opd x))
  | .call c => match c.callee with
    | .builtin .len => match c.args.toList, c.argTypes.toList with
      | [x], [t] => match P.underlying t with
        | some .string => do some (.slen (← opd x))
        | some (.slice _) => do some (.len (← opd x))
        | _ => none
      | _, _ => none
    | .builtin .cap => match c.args.toList, c.argTypes.toList with
      | [x], [t] => match P.underlying t with
        | some (.slice _) => do some (.cap (← opd x))
        | _ => none
      | _, _ => none
    | .builtin .append => match c.args.toList, c.argTypes.toList with
      | [x, y], [t, t'] => if t = t' then do
          let (e, sz, by_) ← sliceT P t
          let _ ← zeroT P e
          some (.app e sz by_ (← opd x) (← opd y))
        else match P.underlying t' with
          | some (.int _) => do
            let (e, sz, by_) ← sliceT P t
            some (.appz e sz by_ (← zeroT P e) (← opd x) (← opd y))
          | _ => none
      | _, _ => none
    | .builtin .clear => match c.args.toList, c.argTypes.toList with
      | [x], [t] => do
        let (e, sz, _) ← sliceT P t
        some (.clr sz (← zeroT P e) (← opd x))
      | _, _ => none
    | _ => none
  | _ => none

def callC (o : Op) : Option Ins :=
  match o with
  | .call c => match c.callee with
    | .value (.func f) => (opds c.args).map fun l => .call f l
    | .value x => match opd x, opds c.args with
      | some x, some l => some (.callv x l)
      | _, _ => none
    | _ => none
  | _ => none
def anyC (o : Op) : Option Ins :=
  match callC o with
  | some i => some i
  | none => match insC P o with
    | some i => if i.isCall then none else some i
    | none => none

/-- A slot that is written is one of the frame's. -/
def dstOk (n : Nat) (d : Option Nat) : Bool :=
  match d with
  | some d => decide (d < n)
  | none => true
def guardC (ops : Array Oper) : Option (Nat × Bool) → Option (Option (Nat × Bool))
  | none => some none
  | some (j, b) => match ops[j]? with
    | some o => o.dst.map fun d => some (d, b)
    | none => none
def inC (n : Nat) (ops : Array Oper) (o : Oper) : In :=
  match anyC P o.op, guardC ops o.guard with
  | some i, some g => if dstOk n o.dst then ⟨o.dst, g, i⟩ else ⟨none, none, .bad⟩
  | _, _ => ⟨none, none, .bad⟩

/-! ### Orders -/
def Opd.slots : Opd → List Nat
  | .t n => [n]
  | .c _ => []
def optSlots : Option Opd → List Nat
  | some x => x.slots
  | none => []
def Alc.slots : Alc → List Nat
  | .new _ _ => []
  | .bsl _ _ _ _ ps => ps.flatMap fun p => p.2.2.slots
  | .mk _ _ _ _ x y => x.slots ++ y.slots
  | .appn _ _ _ y => y.slots
def Ins.slots : Ins → List Nat
  | .mv x | .snil _ x | .un _ x | .wrap _ x | .str x | .sst x | .box x _ | .ld _ x | .nilc x | .off _ x | .fld _ _ x | .len x | .slen x | .cap x | .ext _ x => x.slots
  | .pick a b c => a.slots ++ b.slots ++ c.slots
  | .bin _ x y | .beq _ x y | .aeq _ _ x y | .st _ x y | .ia _ x y | .iaa _ _ x y | .idx x y | .ixa _ _ x y | .app _ _ _ x y | .mk _ _ _ _ x y => x.slots ++ y.slots
  | .build _ ps | .bsl _ _ _ _ ps => ps.flatMap fun p => p.2.2.slots
  | .slc _ x a b c => x.slots ++ optSlots a ++ optSlots b ++ optSlots c
  | .sls x a b => x.slots ++ optSlots a ++ optSlots b
  | .lkm _ x k => x.slots ++ k.slots
  | .upm _ x k v => x.slots ++ k.slots ++ v.slots
  | .clo _ l | .call _ l => l.flatMap Opd.slots
  | .callv x l => x.slots ++ l.flatMap Opd.slots
  | .stD ks _ x y | .appD ks _ _ _ x y => ks ++ x.slots ++ y.slots
  | .fill _ a => a.slots
  | .appz _ _ _ _ x y => x.slots ++ y.slots
  | .clr _ _ x => x.slots
  | .new _ _ | .bsz _ _ | .mkm _ | .bad => []
def In.slots (i : In) : List Nat := i.i.slots ++ (match i.g with | some (t, _) => [t] | none => [])

/-- 0: reckons alone; 1: reads own objects, or calls what only reads; 2: makes an object; 3: writes. -/
def Ins.kind (pure : FuncId → Bool) : Ins → Nat
  | .slc _ _ none _ _ => 0
  | .ld _ _ | .str _ | .slc _ _ _ _ _ => 1
  | .new _ _ | .box _ _ | .bsl _ _ _ _ _ | .bsz _ _ | .mk _ _ _ _ _ _ | .fill _ _ => 2
  | .app _ _ _ (.c (.lit _)) _ => 2
  | .call f _ => if pure f then 1 else 3
  | .app _ _ _ _ _ | .st _ _ _ | .stD _ _ _ _ | .appD _ _ _ _ _ _ | .callv _ _ | .appz _ _ _ _ _ _ | .clr _ _ _ | .mkm _ | .lkm _ _ _ | .upm _ _ _ _ | .bad => 3
  | _ => 0
/-- x reads at a place that y, by its own look, leaves alone. -/
def aside : Ins → Ins → Bool
  | .ld _ (.t k), .stD ks _ _ _ => ks.contains k
  | .ld _ (.t k), .appD ks _ _ _ _ _ => ks.contains k
  | _, _ => false
def Alc.reads : Alc → Bool
  | .appn _ _ _ _ => true
  | _ => false
/-- Two numbers get their objects; the second without a look at others. -/
def swapF : Ins → Ins → Bool
  | .fill p _, .fill q b => p != q && !b.reads
  | _, _ => false
/-- x, which comes first, may as well come behind y. -/
def post (pure : FuncId → Bool) (x y : In) : Bool :=
  (x.i.kind pure == 0 || x.i.kind pure == 1 && y.i.kind pure != 3 || swapF x.i y.i || aside x.i y.i && x.g.isNone && y.g.isNone) &&
  (match x.d with
   | some d => !y.slots.contains d && y.d != some d
   | none => true) &&
  (match y.d with
   | some d => !x.slots.contains d
   | none => true)

/-- Behind which others an operation waits, as bits. -/
def waits (ops : List Oper) : List Nat :=
  ops.foldl (fun acc o => acc ++ [o.after.toList.foldl (fun s e => if Region.binds .any e then s ||| 2 ^ e.on ||| acc.getD e.on 0 else s) 0]) []

/-- Early what only reckons or reads; the rest in the order of the text. -/
def canonGo (ops : List Oper) (light : List Bool) : Nat → List Nat → List Nat → List Nat
  | 0, _, acc => acc.reverse
  | n + 1, left, acc =>
    let rdy := left.filter fun i => match ops[i]? with
      | some o => o.after.toList.all fun e => !Region.binds .any e || acc.contains e.on
      | none => false
    match (rdy.find? fun i => light.getD i false).orElse (fun _ => rdy.head?) with
    | some i => canonGo ops light n (left.filter (· != i)) (i :: acc)
    | none => acc.reverse
def canon (ops : List Oper) (light : List Bool) : List Nat := canonGo ops light ops.length (List.range ops.length) []

def Ins.ldOf : Ins → Option Nat
  | .ld _ (.t k) => some k
  | _ => none
def Ins.looks : Ins → Bool
  | .st _ _ _ | .app _ _ _ _ _ => true
  | _ => false
/-- A store or an append that is told apart from what these slots point at. -/
def withLooks (ks : List Nat) (y : In) : In :=
  match ks with
  | [] => y
  | _ => match y.i with
    | .st sz a b => ⟨y.d, y.g, .stD ks sz a b⟩
    | .app t sz by_ a b => ⟨y.d, y.g, .appD ks t sz by_ a b⟩
    | _ => y
/-- x, which comes first, may as well come behind y, if y looks at these slots. -/
def postL (pure : FuncId → Bool) (x y : In) (ks : List Nat) : Bool :=
  (x.i.kind pure == 0 || x.i.kind pure == 1 && (withLooks ks y).i.kind pure != 3 || swapF x.i y.i ||
    (match x.i.ldOf with
     | some k => ks.contains k && y.i.looks && x.g.isNone && y.g.isNone && x.d != some k
     | none => false)) &&
  (match x.d with
   | some d => !y.slots.contains d && y.d != some d
   | none => true) &&
  (match y.d with
   | some d => !x.slots.contains d
   | none => true)
/-- Which slots an operation has to look at: those of earlier loads that do not bind it. -/
def looksOf (pure : FuncId → Bool) (ins : List In) (bits : List Nat) (l : List Nat) (j : Nat) : List Nat :=
  if (ins.getD j default).i.looks then
    (l.takeWhile (· != j)).filterMap fun x =>
      if (bits.getD j 0).testBit x || postL pure (ins.getD x default) (ins.getD j default) [] then none else (ins.getD x default).i.ldOf
  else []
def pairsOk (pure : FuncId → Bool) (ins : List In) (looks : List (List Nat)) (all : List Nat) (bits : List Nat) : List Nat → Bool
  | [] => true
  | x :: l => (l.all fun y => ((bits.getD y 0).testBit x || postL pure (ins.getD x default) (ins.getD y default) (looks.getD y [])) &&
      (match (ins.getD x default).i.ldOf with
       | some k => !(all.contains k && (ins.getD y default).d == some k)
       | none => true)) && pairsOk pure ins looks all bits l
def backOk (ops : List Oper) : Bool := ops.zipIdx.all fun (o, i) => o.after.toList.all fun e => !Region.binds .any e || decide (e.on < i)

def toAlc : Ins → Option Alc
  | .new z t => some (.new z t)
  | .bsl t sz len z ps => some (.bsl t sz len z ps)
  | .mk t sz by_ z n c => some (.mk t sz by_ z n c)
  | .app t sz by_ (.c (.lit (.slice none 0 0))) y => some (.appn t sz by_ y)
  | _ => none
/-- What makes an object makes it for a kept number. -/
def withFill (p : Nat) (x : In) : In := match toAlc x.i with
  | some a => ⟨x.d, x.g, .fill p a⟩
  | none => x
def isAlc (x : In) : Bool := (toAlc x.i).isSome

/-- The order, if it may stand for all orders. -/
def orderC (pure : FuncId → Bool) (ops : Array Oper) (ins : List In) : Option (List In) :=
  let bits := waits ops.toList
  let l := canon ops.toList (ins.map fun i => i.i.kind pure < 2)
  let looks := (List.range ops.size).map (looksOf pure ins bits l)
  if backOk ops.toList && decide (l.length = ops.size) && decide l.Nodup && l.all (fun i => decide (i < ops.size)) && pairsOk pure ins looks looks.flatten bits l then some (l.map fun i => withLooks (looks.getD i []) (ins.getD i default)) else none

def regionC (pure : FuncId → Bool) (n : Nat) (ops : Array Oper) (draw : Bool) : B :=
  let ins := ops.toList.map (inC P n ops)
  if draw then
    match orderC pure ops ins with
    | some l => .ops l
    | none => match orderC pure ops (ins.zipIdx.map fun (x, j) => withFill ((ins.take j).countP isAlc) x) with
      | some l => .rsv (ins.countP isAlc) l
      | none => .ops [⟨none, none, .bad⟩]
  else .ops ins

def codeC (pure : FuncId → Bool) (n : Nat) : Code → B
  | .skip => .skip
  | .region _ ops draw => regionC P pure n ops draw
  | .seq a b => .seq (codeC pure n a) (codeC pure n b)
  | .cond c a b => match opd c with
    | some x => .cond x (codeC pure n a) (codeC pure n b)
    | none => .ops [⟨none, none, .bad⟩]
  | .block id c => .block id (codeC pure n c)
  | .loop c => .loop (codeC pure n c)
  | .exit id => .exit id
  | .ret => .ret
  | _ => .ops [⟨none, none, .bad⟩]

def resC : ResultVar → Option Res
  | .tmp t => some (.t t)
  | .cell a t => (szT P t).map (.cell a)

def funcC (pure : FuncId → Bool) (f : Func) : Option Fn :=
  match f.body, f.results.toList.mapM (resC P) with
  | some c, some rs => if f.name != "runtime.NumGoroutine" then some ⟨f.ntmps, codeC P pure f.ntmps c, rs⟩ else none
  | _, _ => none
end
end Go.Proofs.Vm
/-! Rules for the abstract machine: what a list of instructions, a piece of code, a function comes to, whatever the number of rounds. -/
namespace Go.Proofs.Vm
open Go

/-! ### 1. More rounds tell the same -/
def Callee.le (c d : Callee) : Prop := ∀ f a H r, c f a H = some r → d f a H = some r

theorem evO_mono {c d : Callee} (h : c.le d) {i : In} {st st' : St} (e : evO c i st = some st') : evO d i st = some st' := by
  unfold evO at *
  split
  · rename_i hw
    rw [if_pos hw] at e
    split at e
    · rename_i f args hi
      obtain ⟨r, hr, rfl⟩ := Option.map_eq_some_iff.1 e
      rw [h _ _ _ _ hr]; rfl
    · rename_i x args hi
      split at e
      · obtain ⟨r, hr, rfl⟩ := Option.map_eq_some_iff.1 e
        rw [h _ _ _ _ hr]; rfl
      · cases e
    · exact e
  · rename_i hw
    rw [if_neg hw] at e
    exact e
theorem evL_mono {c d : Callee} (h : c.le d) : ∀ (l : List In) {st st' : St}, evL c l st = some st' → evL d l st = some st'
  | [], _, _, e => e
  | i :: l, st, st', e => by
    simp only [evL] at *
    cases hi : evO c i st with
    | none => rw [hi] at e; cases e
    | some st1 => rw [hi] at e; rw [evO_mono h hi]; exact evL_mono h l e
theorem evB_mono {c d : Callee} (h : c.le d) : ∀ (n m : Nat), n ≤ m → ∀ (b : B) {st : St} {r : Ex × St}, evB c n b st = some r → evB d m b st = some r := by
  intro n
  induction n with
  | zero => intro m _ b st r e; simp [evB] at e
  | succ n ih =>
    intro m hm b st r e
    obtain ⟨m, rfl⟩ : ∃ k, m = k + 1 := ⟨m - 1, by omega⟩
    have ih := ih m (by omega)
    cases b with
    | ops l =>
      simp only [evB] at *
      obtain ⟨st1, h1, rfl⟩ := Option.map_eq_some_iff.1 e
      rw [evL_mono h l h1]; rfl
    | rsv k l =>
      simp only [evB] at *
      obtain ⟨st1, h1, rfl⟩ := Option.map_eq_some_iff.1 e
      rw [evL_mono h _ h1]; rfl
    | skip => exact e
    | ret => exact e
    | exit id => exact e
    | seq a b =>
      simp only [evB] at *
      cases ha : evB c n a st with
      | none => rw [ha] at e; cases e
      | some x => rw [ha] at e; rw [ih a ha]; obtain ⟨ex, st1⟩ := x; cases ex <;> first | exact ih b e | exact e
    | cond x a b =>
      simp only [evB] at *
      cases he : x.ev st.1 with
      | lit v => cases v <;> rw [he] at e <;> first | exact ih _ e | cases e
      | _ => rw [he] at e; cases e
    | block id b =>
      simp only [evB] at *
      cases ha : evB c n b st with
      | none => rw [ha] at e; cases e
      | some x => rw [ha] at e; rw [ih b ha]; exact e
    | loop b =>
      simp only [evB] at *
      cases ha : evB c n b st with
      | none => rw [ha] at e; cases e
      | some x => rw [ha] at e; rw [ih b ha]; obtain ⟨ex, st1⟩ := x; cases ex <;> first | exact ih _ e | exact e

variable {D : FuncId → Option Def}

theorem evF_mono {c d : Callee} (h : c.le d) {n m : Nat} (hm : n ≤ m) {f : Fn} {args : List V} {H : List O} {r : V × List O} (e : evF c n f args H = some r) : evF d m f args H = some r := by
  unfold evF at *
  cases hb : evB c n f.body (argsAt args, H) with
  | none => rw [hb] at e; cases e
  | some x => rw [hb] at e; rw [evB_mono h n m hm _ hb]; exact e

theorem run_succ_le : ∀ n, Callee.le (run D n) (run D (n + 1)) := by
  intro n
  induction n with
  | zero => intro f a H r e; simp [run] at e
  | succ n ih =>
    intro f a H r e
    rw [run] at e ⊢
    cases hd : D f with
    | none => rw [hd] at e; cases e
    | some x =>
      rw [hd] at e
      match x with
      | .ext g => exact e
      | .code false fn => exact evF_mono ih (by omega) e
      | .code true fn =>
        simp only at e ⊢
        cases ha : a.mapM (frz H depth) with
        | none => rw [ha] at e; cases e
        | some as =>
          rw [ha] at e
          simp only at e ⊢
          cases hf : evF (run D n) n fn as [] with
          | none => rw [hf] at e; cases e
          | some y => rw [hf] at e; rw [evF_mono ih (by omega) hf]; exact e
theorem run_le {n m : Nat} (h : n ≤ m) : Callee.le (run D n) (run D m) := by
  induction m with
  | zero => exact (show n = 0 by omega) ▸ fun _ _ _ _ e => e
  | succ m ih =>
    by_cases e : n = m + 1
    · subst e; exact fun _ _ _ _ e => e
    · intro f a H r hr; exact run_succ_le m _ _ _ _ (ih (by omega) _ _ _ _ hr)

/-! ### 2. What comes out, whatever the number of rounds -/
def Fx (D : FuncId → Option Def) (f : FuncId) (args : List V) (H : List O) (Q : V → List O → Prop) : Prop :=
  ∃ n r, run D n f args H = some r ∧ Q r.1 r.2
def Lx (D : FuncId → Option Def) (l : List In) (s : Nat → V) (H : List O) (Q : (Nat → V) → List O → Prop) : Prop :=
  ∃ n st, evL (run D n) l (s, H) = some st ∧ Q st.1 st.2
def Bx (D : FuncId → Option Def) (b : B) (s : Nat → V) (H : List O) (Q : Ex → (Nat → V) → List O → Prop) : Prop :=
  ∃ n e st, evB (run D n) n b (s, H) = some (e, st) ∧ Q e st.1 st.2

section
variable {s : Nat → V} {H : List O}

theorem Lx_nil {Q : (Nat → V) → List O → Prop} : Lx D [] s H Q ↔ Q s H :=
  ⟨fun ⟨_, _, e, q⟩ => by simp only [evL, Option.some.injEq] at e; subst e; exact q, fun q => ⟨0, (s, H), rfl, q⟩⟩

/-- An instruction that is no call, and has no guard. -/
theorem Lx_cons {Q : (Nat → V) → List O → Prop} {i : In} {l : List In} (hc : ∀ f a, i.i ≠ .call f a) (hv : ∀ x a, i.i ≠ .callv x a) (hg : wantB s i.g = true) :
    Lx D (i :: l) s H Q ↔ ∃ r, evI i.i s H = some r ∧ Lx D l (put s i.d r.1) r.2 Q := by
  have key : ∀ c : Callee, evO c i (s, H) = (evI i.i s H).map fun r => (put s i.d r.1, r.2) := by
    intro c
    unfold evO
    rw [if_pos hg]
    split
    · rename_i f a e; exact absurd e (hc f a)
    · rename_i x a e; exact absurd e (hv x a)
    · rfl
  constructor
  · rintro ⟨n, st, e, q⟩
    simp only [evL, key] at e
    cases hr : evI i.i s H with
    | none => rw [hr] at e; cases e
    | some r => rw [hr] at e; exact ⟨r, rfl, n, st, e, q⟩
  · rintro ⟨r, hr, n, st, e, q⟩
    refine ⟨n, st, ?_, q⟩
    simp only [evL, key, hr]
    exact e
theorem Lx_skip {Q : (Nat → V) → List O → Prop} {i : In} {l : List In} (hg : wantB s i.g = false) : Lx D (i :: l) s H Q ↔ Lx D l (put s i.d .none_) H Q := by
  have key : ∀ c : Callee, evO c i (s, H) = some (put s i.d .none_, H) := by
    intro c; unfold evO; rw [if_neg (by simp [hg])]
  constructor <;> rintro ⟨n, st, e, q⟩ <;> refine ⟨n, st, ?_, q⟩ <;> simpa only [evL, key] using e
theorem Lx_call0 {Q : (Nat → V) → List O → Prop} {i : In} {l : List In} {f : FuncId} {args : List V}
    (key : ∀ c : Callee, evO c i (s, H) = (c f args H).map fun r => (put s i.d r.1, r.2)) :
    Lx D (i :: l) s H Q ↔ Fx D f args H fun r H' => Lx D l (put s i.d r) H' Q := by
  constructor
  · rintro ⟨n, st, e, q⟩
    simp only [evL, key] at e
    cases hr : run D n f args H with
    | none => rw [hr] at e; cases e
    | some r => rw [hr] at e; exact ⟨n, r, hr, n, st, e, q⟩
  · rintro ⟨n, r, hr, m, st, e, q⟩
    refine ⟨max n m, st, ?_, q⟩
    simp only [evL, key, run_le (Nat.le_max_left n m) _ _ _ _ hr, Option.map_some]
    exact evL_mono (run_le (Nat.le_max_right n m)) l e
theorem Lx_want {Q : (Nat → V) → List O → Prop} {d : Option Nat} {g : Option (Nat × Bool)} {i : Ins} {l : List In} (hg : wantB s g = true) : Lx D (⟨d, g, i⟩ :: l) s H Q ↔ Lx D (⟨d, none, i⟩ :: l) s H Q := by
  have key : ∀ c : Callee, evO c ⟨d, g, i⟩ (s, H) = evO c ⟨d, none, i⟩ (s, H) := fun c => by
    have h2 : wantB s none = true := rfl
    unfold evO
    simp only [hg, h2, if_true]
  constructor <;> rintro ⟨n, st, e, q⟩ <;> refine ⟨n, st, ?_, q⟩
  · simp only [evL, key] at e ⊢; exact e
  · simp only [evL, key] at e ⊢; exact e
theorem Lx_call {Q : (Nat → V) → List O → Prop} {d : Option Nat} {l : List In} {f : FuncId} {as : List Opd} :
    Lx D (⟨d, none, .call f as⟩ :: l) s H Q ↔ Fx D f (as.map (·.ev s)) H fun r H' => Lx D l (put s d r) H' Q :=
  Lx_call0 fun _ => rfl
theorem Lx_callv {Q : (Nat → V) → List O → Prop} {d : Option Nat} {l : List In} {x : Opd} {f : FuncId} {caps : List V} {as : List Opd} (hx : x.ev s = .clo f caps) :
    Lx D (⟨d, none, .callv x as⟩ :: l) s H Q ↔ Fx D f (as.map (·.ev s) ++ caps) H fun r H' => Lx D l (put s d r) H' Q :=
  Lx_call0 fun c => by simp [evO, wantB, hx]

theorem Bx_rsv {Q : Ex → (Nat → V) → List O → Prop} {k : Nat} {l : List In} : Bx D (.rsv k l) s H Q ↔ Lx D (l.map (In.shift H.length)) s (H ++ List.replicate k .hole) (Q .normal) := by
  constructor
  · rintro ⟨n, e, st, h, q⟩
    cases n with
    | zero => simp [evB] at h
    | succ n =>
      simp only [evB] at h
      obtain ⟨st2, h1, h2⟩ := Option.map_eq_some_iff.1 h
      cases h2
      exact ⟨_, _, h1, q⟩
  · rintro ⟨n, st, e, q⟩
    refine ⟨n + 1, .normal, st, ?_, q⟩
    simp only [evB, evL_mono (run_le (Nat.le_succ n)) _ e, Option.map_some]
theorem Bx_ops {Q : Ex → (Nat → V) → List O → Prop} {l : List In} : Bx D (.ops l) s H Q ↔ Lx D l s H (Q .normal) := by
  constructor
  · rintro ⟨n, e, st, h, q⟩
    cases n with
    | zero => simp [evB] at h
    | succ n =>
      simp only [evB] at h
      obtain ⟨st2, h1, h2⟩ := Option.map_eq_some_iff.1 h
      cases h2
      exact ⟨_, _, h1, q⟩
  · rintro ⟨n, st, e, q⟩
    refine ⟨n + 1, .normal, st, ?_, q⟩
    simp only [evB, evL_mono (run_le (show n ≤ n + 1 by omega)) l e, Option.map_some]
theorem Bx_skip {Q : Ex → (Nat → V) → List O → Prop} : Bx D .skip s H Q ↔ Q .normal s H :=
  ⟨fun ⟨n, e, st, h, q⟩ => by cases n <;> simp [evB] at h; obtain ⟨rfl, rfl⟩ := h; exact q, fun q => ⟨1, .normal, (s, H), rfl, q⟩⟩
theorem Bx_ret {Q : Ex → (Nat → V) → List O → Prop} : Bx D .ret s H Q ↔ Q .ret s H :=
  ⟨fun ⟨n, e, st, h, q⟩ => by cases n <;> simp [evB] at h; obtain ⟨rfl, rfl⟩ := h; exact q, fun q => ⟨1, .ret, (s, H), rfl, q⟩⟩
theorem Bx_exit {Q : Ex → (Nat → V) → List O → Prop} {id : Nat} : Bx D (.exit id) s H Q ↔ Q (.exit id) s H :=
  ⟨fun ⟨n, e, st, h, q⟩ => by cases n <;> simp [evB] at h; obtain ⟨rfl, rfl⟩ := h; exact q, fun q => ⟨1, .exit id, (s, H), rfl, q⟩⟩

/-- What comes behind: on at the normal end, else out. -/
def Ex.then (K : (Nat → V) → List O → Prop) (Q : Ex → (Nat → V) → List O → Prop) : Ex → (Nat → V) → List O → Prop
  | .normal, s, H => K s H
  | e, s, H => Q e s H
theorem Bx_seq {Q : Ex → (Nat → V) → List O → Prop} {a b : B} : Bx D (.seq a b) s H Q ↔ Bx D a s H (Ex.then (fun s H => Bx D b s H Q) Q) := by
  constructor
  · rintro ⟨n, e, st, h, q⟩
    cases n with
    | zero => simp [evB] at h
    | succ n =>
      simp only [evB] at h
      cases ha : evB (run D (n + 1)) n a (s, H) with
      | none => rw [ha] at h; cases h
      | some x =>
        rw [ha] at h
        obtain ⟨ex, st1⟩ := x
        have ha' := evB_mono (fun _ _ _ _ e => e) n (n + 1) (by omega) a ha
        cases ex with
        | normal => exact ⟨n + 1, .normal, st1, ha', n + 1, e, st, evB_mono (fun _ _ _ _ e => e) n (n + 1) (by omega) b h, q⟩
        | exit id => cases h; exact ⟨n + 1, _, _, ha', q⟩
        | ret => cases h; exact ⟨n + 1, _, _, ha', q⟩
  · rintro ⟨n, ex, st1, ha, q⟩
    cases ex with
    | normal =>
      obtain ⟨m, e, st, hb, q⟩ := q
      refine ⟨max n m + 1, e, st, ?_, q⟩
      simp only [evB, evB_mono (run_le (show n ≤ max n m + 1 by omega)) n (max n m) (by omega) a ha]
      exact evB_mono (run_le (by omega)) m (max n m) (by omega) b hb
    | exit id => exact ⟨n + 1, _, st1, by simp only [evB, evB_mono (run_le (show n ≤ n + 1 by omega)) n n (by omega) a ha], q⟩
    | ret => exact ⟨n + 1, _, st1, by simp only [evB, evB_mono (run_le (show n ≤ n + 1 by omega)) n n (by omega) a ha], q⟩
theorem Bx_cond {Q : Ex → (Nat → V) → List O → Prop} {c : Opd} {a b : B} {t : Bool} (hc : c.ev s = .bool t) : Bx D (.cond c a b) s H Q ↔ Bx D (if t then a else b) s H Q := by
  constructor
  · rintro ⟨n, e, st, h, q⟩
    cases n with
    | zero => simp [evB] at h
    | succ n =>
      simp only [evB, hc] at h
      exact ⟨n + 1, e, st, evB_mono (fun _ _ _ _ e => e) n (n + 1) (by omega) _ h, q⟩
  · rintro ⟨n, e, st, h, q⟩
    refine ⟨n + 1, e, st, ?_, q⟩
    simp only [evB, hc]
    exact evB_mono (run_le (by omega)) n n (Nat.le_refl _) _ h
def Ex.inBlock (id : Nat) (Q : Ex → (Nat → V) → List O → Prop) : Ex → (Nat → V) → List O → Prop
  | .exit id', s, H => if id' = id then Q .normal s H else Q (.exit id') s H
  | e, s, H => Q e s H
theorem Bx_block {Q : Ex → (Nat → V) → List O → Prop} {id : Nat} {b : B} : Bx D (.block id b) s H Q ↔ Bx D b s H (Ex.inBlock id Q) := by
  constructor
  · rintro ⟨n, e, st, h, q⟩
    cases n with
    | zero => simp [evB] at h
    | succ n =>
      simp only [evB] at h
      cases ha : evB (run D (n + 1)) n b (s, H) with
      | none => rw [ha] at h; cases h
      | some x =>
        rw [ha] at h
        obtain ⟨ex, st1⟩ := x
        refine ⟨n + 1, ex, st1, evB_mono (fun _ _ _ _ e => e) n (n + 1) (by omega) b ha, ?_⟩
        cases ex with
        | exit id' =>
          simp only at h
          by_cases e1 : id' = id
          · rw [if_pos e1] at h; cases h; simp only [Ex.inBlock, if_pos e1]; exact q
          · rw [if_neg e1] at h; cases h; simp only [Ex.inBlock, if_neg e1]; exact q
        | normal => cases h; exact q
        | ret => cases h; exact q
  · rintro ⟨n, ex, st1, ha, q⟩
    have ha' := evB_mono (run_le (show n ≤ n + 1 by omega)) n n (Nat.le_refl _) b ha
    cases ex with
    | exit id' =>
      simp only [Ex.inBlock] at q
      by_cases e1 : id' = id
      · rw [if_pos e1] at q; exact ⟨n + 1, .normal, st1, by simp only [evB, ha', if_pos e1], q⟩
      · rw [if_neg e1] at q; exact ⟨n + 1, .exit id', st1, by simp only [evB, ha', if_neg e1], q⟩
    | normal => exact ⟨n + 1, .normal, st1, by simp only [evB, ha'], q⟩
    | ret => exact ⟨n + 1, .ret, st1, by simp only [evB, ha'], q⟩
theorem Bx_loop {Q : Ex → (Nat → V) → List O → Prop} {b : B} : Bx D (.loop b) s H Q ↔ Bx D b s H (Ex.then (fun s H => Bx D (.loop b) s H Q) Q) := by
  constructor
  · rintro ⟨n, e, st, h, q⟩
    cases n with
    | zero => simp [evB] at h
    | succ n =>
      simp only [evB] at h
      cases ha : evB (run D (n + 1)) n b (s, H) with
      | none => rw [ha] at h; cases h
      | some x =>
        rw [ha] at h
        obtain ⟨ex, st1⟩ := x
        have ha' := evB_mono (fun _ _ _ _ e => e) n (n + 1) (by omega) b ha
        cases ex with
        | normal => exact ⟨n + 1, .normal, st1, ha', n + 1, e, st, evB_mono (fun _ _ _ _ e => e) n (n + 1) (by omega) _ h, q⟩
        | exit id => cases h; exact ⟨n + 1, _, _, ha', q⟩
        | ret => cases h; exact ⟨n + 1, _, _, ha', q⟩
  · rintro ⟨n, ex, st1, ha, q⟩
    cases ex with
    | normal =>
      obtain ⟨m, e, st, hb, q⟩ := q
      refine ⟨max n m + 1, e, st, ?_, q⟩
      simp only [evB, evB_mono (run_le (show n ≤ max n m + 1 by omega)) n (max n m) (by omega) b ha]
      exact evB_mono (run_le (by omega)) m (max n m) (by omega) _ hb
    | exit id => exact ⟨n + 1, _, st1, by simp only [evB, evB_mono (run_le (show n ≤ n + 1 by omega)) n n (by omega) b ha], q⟩
    | ret => exact ⟨n + 1, _, st1, by simp only [evB, evB_mono (run_le (show n ≤ n + 1 by omega)) n n (by omega) b ha], q⟩

theorem Bx_mono {Q Q' : Ex → (Nat → V) → List O → Prop} {b : B} (h : Bx D b s H Q) (hq : ∀ e s H, Q e s H → Q' e s H) : Bx D b s H Q' :=
  let ⟨n, e, st, h, q⟩ := h; ⟨n, e, st, h, hq _ _ _ q⟩
theorem Fx_mono {Q Q' : V → List O → Prop} {f : FuncId} {args : List V} (h : Fx D f args H Q) (hq : ∀ r H, Q r H → Q' r H) : Fx D f args H Q' :=
  let ⟨n, r, h, q⟩ := h; ⟨n, r, h, hq _ _ q⟩

/-- A LOOP: what holds at each round's head, and a number that each round lowers. -/
theorem Bx_rounds {Q : Ex → (Nat → V) → List O → Prop} {b : B} (I : Nat → (Nat → V) → List O → Prop)
    (round : ∀ n s H, I n s H → Bx D b s H (Ex.then (fun s H => ∃ m, m < n ∧ I m s H) Q)) : ∀ n s H, I n s H → Bx D (.loop b) s H Q := by
  intro n
  induction n using Nat.strongRecOn with
  | _ n ih =>
    intro s H h
    rw [Bx_loop]
    refine Bx_mono (round n s H h) fun e s H q => ?_
    cases e with
    | normal => obtain ⟨m, hm, hi⟩ := q; exact ih m hm s H hi
    | exit id => exact q
    | ret => exact q
end

/-! ### 3. A function -/
def Rx (rs : List Res) (Q : V → List O → Prop) : Ex → (Nat → V) → List O → Prop
  | .normal, s, H | .ret, s, H => ∃ vs, evRs s H rs = some vs ∧ Q (one vs) H
  | _, _, _ => False
theorem Fx_code {f : FuncId} {fn : Fn} (hd : D f = some (.code false fn)) {args : List V} {H : List O} {Q : V → List O → Prop} :
    Fx D f args H Q ↔ Bx D fn.body (argsAt args) H (Rx fn.res Q) := by
  constructor
  · rintro ⟨n, r, h, q⟩
    cases n with
    | zero => simp [run] at h
    | succ n =>
      simp only [run, hd, evF] at h
      cases hb : evB (run D n) n fn.body (argsAt args, H) with
      | none => rw [hb] at h; cases h
      | some x =>
        rw [hb] at h
        obtain ⟨e, s1, H1⟩ := x
        refine ⟨n, e, (s1, H1), hb, ?_⟩
        cases e with
        | exit id => cases h
        | normal => obtain ⟨vs, hv, rfl⟩ := Option.map_eq_some_iff.1 h; exact ⟨vs, hv, q⟩
        | ret => obtain ⟨vs, hv, rfl⟩ := Option.map_eq_some_iff.1 h; exact ⟨vs, hv, q⟩
  · rintro ⟨n, e, ⟨s1, H1⟩, hb, q⟩
    cases e with
    | exit id => exact q.elim
    | normal => obtain ⟨vs, hv, q⟩ := q; exact ⟨n + 1, (one vs, H1), by simp only [run, hd, evF, hb]; rw [hv]; rfl, q⟩
    | ret => obtain ⟨vs, hv, q⟩ := q; exact ⟨n + 1, (one vs, H1), by simp only [run, hd, evF, hb]; rw [hv]; rfl, q⟩
theorem Fx_pure {f : FuncId} {fn : Fn} (hd : D f = some (.code true fn)) {args as : List V} {H : List O} (ha : args.mapM (frz H depth) = some as) {Q : V → List O → Prop} :
    Fx D f args H Q ↔ Bx D fn.body (argsAt as) [] (Rx fn.res fun r H1 => ∃ r', out H1 depth r = some r' ∧ Q r' H) := by
  constructor
  · rintro ⟨n, r, h, q⟩
    cases n with
    | zero => simp [run] at h
    | succ n =>
      simp only [run, hd, ha, evF] at h
      cases hb : evB (run D n) n fn.body (argsAt as, []) with
      | none => rw [hb] at h; cases h
      | some x =>
        rw [hb] at h
        obtain ⟨e, s1, H1⟩ := x
        refine ⟨n, e, (s1, H1), hb, ?_⟩
        cases e with
        | exit id => cases h
        | normal =>
          simp only at h
          cases hv : evRs s1 H1 fn.res with
          | none => rw [hv] at h; cases h
          | some vs => rw [hv] at h; simp only [Option.map_some] at h; obtain ⟨r', hr, rfl⟩ := Option.map_eq_some_iff.1 h; exact ⟨vs, hv, r', hr, q⟩
        | ret =>
          simp only at h
          cases hv : evRs s1 H1 fn.res with
          | none => rw [hv] at h; cases h
          | some vs => rw [hv] at h; simp only [Option.map_some] at h; obtain ⟨r', hr, rfl⟩ := Option.map_eq_some_iff.1 h; exact ⟨vs, hv, r', hr, q⟩
  · rintro ⟨n, e, ⟨s1, H1⟩, hb, q⟩
    cases e with
    | exit id => exact q.elim
    | normal => obtain ⟨vs, hv, r', hr, q⟩ := q; exact ⟨n + 1, (r', H), by simp only [run, hd, ha, evF, hb]; rw [hv]; simp only [Option.map_some, hr], q⟩
    | ret => obtain ⟨vs, hv, r', hr, q⟩ := q; exact ⟨n + 1, (r', H), by simp only [run, hd, ha, evF, hb]; rw [hv]; simp only [Option.map_some, hr], q⟩
theorem Fx_ext {f : FuncId} {g : List V → List O → Option (V × List O)} (hd : D f = some (.ext g)) {args : List V} {H : List O} {Q : V → List O → Prop} :
    Fx D f args H Q ↔ ∃ r, g args H = some r ∧ Q r.1 r.2 := by
  constructor
  · rintro ⟨n, r, h, q⟩
    cases n with
    | zero => simp [run] at h
    | succ n => simp only [run, hd] at h; exact ⟨r, h, q⟩
  · rintro ⟨r, h, q⟩; exact ⟨1, r, by simp only [run, hd]; exact h, q⟩
end Go.Proofs.Vm
/-! What is to be shown so that code of the abstract machine comes to Q: a proposition that is reckoned out of the code, up to the next call or loop. -/
namespace Go.Proofs.Vm
open Go

def wpO {α : Type} (o : Option α) (K : α → Prop) : Prop :=
  match o with
  | some a => K a
  | none => False

def wpBin (op : BinOp) (k : IntKind) (a b : Int) (K : V → Prop) : Prop :=
  match op with
  | .add => K (.lit (.int k (k.wrap (a + b))))
  | .sub => K (.lit (.int k (k.wrap (a - b))))
  | .mul => K (.lit (.int k (k.wrap (a * b))))
  | .quo => b ≠ 0 ∧ K (.lit (.int k (k.wrap (a.tdiv b))))
  | .rem => b ≠ 0 ∧ K (.lit (.int k (a.tmod b)))
  | .and => K (.lit (.int k (bits .and k a b)))
  | .or => K (.lit (.int k (bits .or k a b)))
  | .xor => K (.lit (.int k (bits .xor k a b)))
  | .andNot => K (.lit (.int k (bits .andNot k a b)))
  | .eql => K (.bool (a == b))
  | .neq => K (.bool (a != b))
  | .lss => K (.bool (decide (a < b)))
  | .leq => K (.bool (decide (a ≤ b)))
  | .gtr => K (.bool (decide (a > b)))
  | .geq => K (.bool (decide (a ≥ b)))
  | .shl => 0 ≤ b ∧ K (.lit (.int k (k.wrap (a * 2 ^ min b.toNat k.bits))))
  | .shr => 0 ≤ b ∧ K (.lit (.int k (a.fdiv (2 ^ min b.toNat k.bits))))

/-- What a read gives. -/
def wpRead (l : List V) (off : Nat) (sz : Option Nat) (K : V → Prop) : Prop :=
  match sz with
  | none => ∃ v, l[off]? = some v ∧ K v
  | some n => off + n ≤ l.length ∧ K (.agg ((l.drop off).take n))

def wpI (i : Ins) (s : Nat → V) (H : List O) (K : V → List O → Prop) : Prop :=
  match i with
  | .mv x => K (x.ev s) H
  | .pick c a b => match c.ev s with
    | .lit (.bool t) => K (bif t then a.ev s else b.ev s) H
    | _ => False
  | .bin op x y => match x.ev s, y.ev s with
    | .lit (.int k a), .lit (.int k' b) =>
      match op with
      | .shl => wpBin .shl k a b (K · H)
      | .shr => wpBin .shr k a b (K · H)
      | op => k = k' ∧ wpBin op k a b (K · H)
    | .lit (.string a), .lit (.string b) =>
      match op with
      | .eql => K (.bool (a.toList == b.toList)) H
      | .neq => K (.bool (!(a.toList == b.toList))) H
      | _ => False
    | _, _ => False
  | .beq neg x y => match x.ev s, y.ev s with
    | .lit (.bool a), .lit (.bool b) => K (.bool (bif neg then !(a == b) else a == b)) H
    | _, _ => False
  | .ia sz x i => match i.ev s with
    | .lit (.int _ n) => match x.ev s with
      | .osl h off len => (0 ≤ n ∧ n < len) ∧ K (.optr h (off + n.toNat * sz)) H
      | .fsl t l len => (0 ≤ n ∧ n < len ∧ n.toNat * sz < l.length) ∧ K (.fptr t l (n.toNat * sz)) H
      | _ => False
    | _ => False
  | .ld sz x => match x.ev s with
    | .optr h o => match H[h]? with
      | some (.cells l _ _) => wpRead l o sz (K · H)
      | _ => False
    | .fptr _ l o => wpRead l o sz (K · H)
    | _ => False
  | .st sz x y => match x.ev s with
    | .optr h o => match H[h]? with
      | some (.cells l t z) => ((y.ev s).cells.length = sz ∧ o + sz ≤ l.length ∧ (y.ev s).cells.all V.leaf = true) ∧ K .none_ (H.set h (.cells (l.take o ++ (y.ev s).cells ++ l.drop (o + sz)) t z))
      | _ => False
    | _ => False
  | .box x t => ((x.ev s).cells.all V.leaf = true ∧ 0 < (x.ev s).cells.length) ∧ K (.optr H.length 0) (H ++ [.cells (x.ev s).cells t (x.ev s).cells.length])
  | .new z t => K (.optr H.length 0) (H ++ [.cells z t z.length])
  | .fld o sz x => match x.ev s with
    | .agg l => wpRead l o sz (K · H)
    | _ => False
  | .idx x i => match x.ev s, i.ev s with
    | .lit (.string b), .lit (.int _ n) => ∃ h : 0 ≤ n ∧ n.toNat < b.size, K (.lit (.int .u8 ((b[n.toNat]'h.2).toNat : Int))) H
    | _, _ => False
  | .app t sz bytes x y => ∃ ys m, sliceV H sz (y.ev s) = some (ys, m) ∧ ys.all V.leaf = true ∧
      match x.ev s with
      | .lit (.slice none 0 0) => (m = 0 → K .nils H) ∧ (m ≠ 0 → m * bytes ≤ 140737488355328 ∧ K (.osl H.length 0 m) (H ++ [.cells ys t sz]))
      | .zsl => (m = 0 → K .zsl H) ∧ (m ≠ 0 → m * bytes ≤ 140737488355328 ∧ K (.osl H.length 0 m) (H ++ [.cells ys t sz]))
      | .osl h off n => match H[h]? with
        | some (.cells l t' z) => (off = 0 ∧ t' = t ∧ z = sz ∧ n * sz ≤ l.length ∧ (n + m) * bytes ≤ 140737488355328) ∧ K (.osl H.length 0 (n + m)) (H.set h .dead ++ [.cells (l.take (n * sz) ++ ys) t sz])
        | _ => False
      | _ => False
  | .stD ks sz x y => ks.all (fun k => apartV (s k) (x.ev s)) = true ∧ match x.ev s with
    | .optr h o => match H[h]? with
      | some (.cells l t z) => ((y.ev s).cells.length = sz ∧ o + sz ≤ l.length ∧ (y.ev s).cells.all V.leaf = true) ∧ K .none_ (H.set h (.cells (l.take o ++ (y.ev s).cells ++ l.drop (o + sz)) t z))
      | _ => False
    | _ => False
  | .appD ks t sz bytes x y => ks.all (fun k => apartV (s k) (x.ev s)) = true ∧ ∃ ys m, sliceV H sz (y.ev s) = some (ys, m) ∧ ys.all V.leaf = true ∧
      match x.ev s with
      | .lit (.slice none 0 0) => (m = 0 → K .nils H) ∧ (m ≠ 0 → m * bytes ≤ 140737488355328 ∧ K (.osl H.length 0 m) (H ++ [.cells ys t sz]))
      | .zsl => (m = 0 → K .zsl H) ∧ (m ≠ 0 → m * bytes ≤ 140737488355328 ∧ K (.osl H.length 0 m) (H ++ [.cells ys t sz]))
      | .osl h off n => match H[h]? with
        | some (.cells l t' z) => (off = 0 ∧ t' = t ∧ z = sz ∧ n * sz ≤ l.length ∧ (n + m) * bytes ≤ 140737488355328) ∧ K (.osl H.length 0 (n + m)) (H.set h .dead ++ [.cells (l.take (n * sz) ++ ys) t sz])
        | _ => False
      | _ => False
  | .mk t sz bytes z n c => match n.ev s, c.ev s with
    | .lit (.int .i64 a), .lit (.int .i64 b) => (0 ≤ a ∧ a ≤ b ∧ b * bytes ≤ 140737488355328) ∧ K (.osl H.length 0 a.toNat) (H ++ [.cells ((List.replicate b.toNat z).flatten) t sz])
    | _, _ => False
  | .slc sz x lo hi none => match lenV (x.ev s) with
    | some len => match optI s 0 lo, optI s len hi with
      | some a, some b => (0 ≤ a ∧ a ≤ b ∧ b ≤ len) ∧
          (match x.ev s with
          | .lit _ => K .nils H
          | .zsl => K .zsl H
          | .osl h off _ => (a = b ∧ a ≠ 0 → K (.fsl true [] 0) H) ∧ (¬ (a = b ∧ a ≠ 0) → (a = 0 ∨ szO H h = some sz) ∧ K (.osl h (off + a.toNat * sz) (b - a).toNat) H)
          | .fsl t l n => l.length = n * sz ∧ K (.fsl t ((l.drop (a.toNat * sz)).take ((b - a).toNat * sz)) (b - a).toNat) H
          | _ => False)
      | _, _ => False
    | none => False
  | i => wpO (evI i s H) fun r => K r.1 r.2

theorem wpO_some {α : Type} {o : Option α} {K : α → Prop} (h : wpO o K) : ∃ a, o = some a ∧ K a := by
  cases o with
  | none => exact h.elim
  | some a => exact ⟨a, rfl, h⟩
theorem wpBin_ok {op : BinOp} {k : IntKind} {a b : Int} {K : V → Prop} (h : wpBin op k a b K) : ∃ v, binI op k a b = some v ∧ K (.lit v) := by
  cases op <;> simp only [wpBin, binI] at h ⊢ <;> first
    | exact ⟨_, rfl, h⟩
    | (obtain ⟨h1, h2⟩ := h; exact ⟨_, by rw [if_neg (by omega)], h2⟩)
theorem wpRead_ok {l : List V} {off : Nat} {sz : Option Nat} {K : V → Prop} (h : wpRead l off sz K) : ∃ v, readV l off sz = some v ∧ K v := by
  cases sz with
  | none => exact h
  | some n => exact ⟨_, by simp only [readV]; rw [if_pos h.1], h.2⟩

theorem wpI_ok0 {i : Ins} {s : Nat → V} {H : List O} {K : V → List O → Prop} (hnD : (∀ ks sz x y, i ≠ .stD ks sz x y) ∧ ∀ ks t sz by_ x y, i ≠ .appD ks t sz by_ x y) (h : wpI i s H K) : ∃ r, evI i s H = some r ∧ K r.1 r.2 := by
  cases i with
  | mv x => exact ⟨_, rfl, h⟩
  | pick c a b =>
    simp only [wpI, evI] at h ⊢
    cases hc : c.ev s with
    | lit v => cases v <;> simp only [hc] at h ⊢ <;> first | exact h.elim | exact ⟨_, rfl, by rename_i b; cases b <;> exact h⟩
    | _ => simp only [hc] at h
  | bin op x y =>
    simp only [wpI, evI, binV] at h ⊢
    cases hx : x.ev s with
    | lit v =>
      cases hy : y.ev s with
      | lit u =>
        cases v <;> cases u <;> simp only [hx, hy] at h ⊢ <;> first
          | exact h.elim
          | (cases op <;> simp only at h ⊢ <;> first
              | (obtain ⟨v, h1, h2⟩ := wpBin_ok h; exact ⟨_, by rw [h1]; rfl, h2⟩)
              | (obtain ⟨h0, h⟩ := h; obtain ⟨v, h1, h2⟩ := wpBin_ok h; exact ⟨_, by rw [if_pos h0, h1]; rfl, h2⟩))
          | (cases op <;> simp only at h ⊢ <;> first | exact ⟨_, rfl, h⟩ | exact h.elim)
      | _ => cases v <;> simp only [hx, hy] at h
    | _ => simp only [hx] at h
  | beq neg x y =>
    simp only [wpI, evI] at h ⊢
    cases hx : x.ev s with
    | lit v =>
      cases hy : y.ev s with
      | lit u => cases v <;> cases u <;> simp only [hx, hy] at h ⊢ <;> first | exact h.elim | exact ⟨_, rfl, by cases neg <;> exact h⟩
      | _ => cases v <;> simp only [hx, hy] at h
    | _ => simp only [hx] at h
  | ia sz x i =>
    simp only [wpI, evI] at h ⊢
    cases hi : i.ev s with
    | lit v =>
      cases v <;> simp only [hi] at h ⊢ <;> try exact h.elim
      cases hx : x.ev s <;> simp only [hx] at h ⊢ <;> first
        | exact h.elim
        | exact ⟨_, by rw [if_pos h.1], h.2⟩
    | _ => simp only [hi] at h
  | ld sz x =>
    simp only [wpI, evI] at h ⊢
    cases hx : x.ev s with
    | optr a o =>
      simp only [hx, getO] at h ⊢
      cases ho : H[a]? with
      | none => simp only [ho] at h
      | some ob =>
        cases ob <;> simp only [ho] at h ⊢ <;> try exact h.elim
        obtain ⟨v, h1, h2⟩ := wpRead_ok h
        exact ⟨_, by rw [h1]; rfl, h2⟩
    | fptr t l o =>
      simp only [hx] at h ⊢
      obtain ⟨v, h1, h2⟩ := wpRead_ok h
      exact ⟨_, by rw [h1]; rfl, h2⟩
    | _ => simp only [hx] at h
  | st sz x y =>
    simp only [wpI, evI] at h ⊢
    cases hx : x.ev s with
    | optr a o =>
      simp only [hx] at h ⊢
      cases ho : H[a]? with
      | none => simp only [ho] at h
      | some ob =>
        cases ob <;> simp only [ho] at h ⊢ <;> try exact h.elim
        exact ⟨_, by rw [if_pos h.1], h.2⟩
    | _ => simp only [hx] at h
  | box x t => exact ⟨_, by simp only [evI]; rw [if_pos h.1], h.2⟩
  | new z t => exact ⟨_, rfl, h⟩
  | fld o sz x =>
    simp only [wpI, evI] at h ⊢
    cases hx : x.ev s <;> simp only [hx] at h ⊢ <;> try exact h.elim
    obtain ⟨v, h1, h2⟩ := wpRead_ok h
    exact ⟨_, by rw [h1]; rfl, h2⟩
  | idx x i =>
    simp only [wpI, evI] at h ⊢
    cases hx : x.ev s with
    | lit v =>
      cases hi : i.ev s with
      | lit u =>
        cases v <;> cases u <;> simp only [hx, hi] at h ⊢ <;> try exact h.elim
        rename_i b k n
        obtain ⟨⟨h1, h2⟩, hk⟩ := h
        have e : b[n.toNat]? = some b[n.toNat] := getElem?_pos b n.toNat h2
        exact ⟨_, by rw [if_pos h1, e], hk⟩
      | _ => cases v <;> simp only [hx, hi] at h
    | _ => simp only [hx] at h
  | app t sz bytes x y =>
    simp only [wpI, evI] at h ⊢
    obtain ⟨ys, m, hs, hl, h⟩ := h
    simp only [hs]
    cases hx : x.ev s with
    | lit v =>
      simp only [hx] at h ⊢
      split at h
      · rename_i e
        cases e
        by_cases h0 : m = 0
        · exact ⟨(_, H), by simp only [if_pos h0], h.1 h0⟩
        · exact ⟨_, by simp only [if_neg h0]; rw [if_pos ⟨(h.2 h0).1, hl⟩], (h.2 h0).2⟩
      · rename_i e; cases e
      · rename_i e; cases e
      · exact h.elim
    | zsl =>
      simp only [hx] at h ⊢
      by_cases h0 : m = 0
      · exact ⟨(_, H), by simp only [if_pos h0], h.1 h0⟩
      · exact ⟨_, by simp only [if_neg h0]; rw [if_pos ⟨(h.2 h0).1, hl⟩], (h.2 h0).2⟩
    | osl a off n =>
      simp only [hx] at h ⊢
      cases ho : H[a]? with
      | none => simp only [ho] at h
      | some ob =>
        cases ob <;> simp only [ho] at h ⊢ <;> try exact h.elim
        obtain ⟨⟨rfl, h1, h2, h3, h4⟩, hk⟩ := h
        exact ⟨(_, _), by simp only [ho]; rw [if_pos (And.intro h1 (And.intro h2 (And.intro h3 (And.intro h4 hl))))], hk⟩
    | _ => simp only [hx] at h
  | mk t sz bytes z n c =>
    simp only [wpI, evI] at h ⊢
    split at h
    · rename_i a b e1 e2
      try simp only [e1, e2]
      exact ⟨_, by rw [if_pos h.1], h.2⟩
    · exact h.elim
  | slc sz x lo hi mx =>
    cases mx with
    | some m => exact wpO_some h
    | none =>
      simp only [wpI, evI] at h ⊢
      cases hl : lenV (x.ev s) with
      | none => simp only [hl] at h
      | some len =>
        simp only [hl] at h ⊢
        cases h1 : optI s 0 lo with
        | none => simp only [h1] at h
        | some a =>
          cases h2 : optI s len hi with
          | none => simp only [h1, h2] at h
          | some b =>
            simp only [h1, h2] at h ⊢
            obtain ⟨hb, h⟩ := h
            simp only [if_pos hb]
            cases hx : x.ev s with
            | lit v => cases v <;> simp only [hx] at h ⊢ <;> exact ⟨_, rfl, h⟩
            | zsl => simp only [hx] at h ⊢; exact ⟨_, rfl, h⟩
            | osl g off n =>
              simp only [hx] at h ⊢
              by_cases e : a = b ∧ a ≠ 0
              · exact ⟨_, by rw [if_pos e], h.1 e⟩
              · exact ⟨_, by rw [if_neg e, if_pos (h.2 e).1], (h.2 e).2⟩
            | fsl t l n => simp only [hx] at h ⊢; exact ⟨_, by rw [if_pos h.1], h.2⟩
            | _ => simp only [hx] at h
  | stD ks sz x y => exact absurd rfl (hnD.1 ks sz x y)
  | appD ks t sz by_ x y => exact absurd rfl (hnD.2 ks t sz by_ x y)
  | _ => exact wpO_some h
theorem wpI_ok {i : Ins} {s : Nat → V} {H : List O} {K : V → List O → Prop} (h : wpI i s H K) : ∃ r, evI i s H = some r ∧ K r.1 r.2 := by
  cases i with
  | stD ks sz x y =>
    obtain ⟨h1, h2⟩ := h
    obtain ⟨r, h3, h4⟩ := wpI_ok0 (i := .st sz x y) (s := s) (H := H) (K := K) ⟨fun _ _ _ _ e => (by cases e), fun _ _ _ _ _ _ e => (by cases e)⟩ h2
    refine ⟨r, ?_, h4⟩
    rw [← evSt_eq] at h3
    simp only [evI]
    rw [if_pos h1]; exact h3
  | appD ks t sz by_ x y =>
    obtain ⟨h1, h2⟩ := h
    obtain ⟨r, h3, h4⟩ := wpI_ok0 (i := .app t sz by_ x y) (s := s) (H := H) (K := K) ⟨fun _ _ _ _ e => (by cases e), fun _ _ _ _ _ _ e => (by cases e)⟩ h2
    refine ⟨r, ?_, h4⟩
    rw [← evApp_eq] at h3
    simp only [evI]
    rw [if_pos h1]; exact h3
  | _ => exact wpI_ok0 ⟨fun _ _ _ _ e => (by cases e), fun _ _ _ _ _ _ e => (by cases e)⟩ h

variable (D : FuncId → Option Def)
def wpU (i : Ins) (s : Nat → V) (H : List O) (K : V → List O → Prop) : Prop :=
  match i with
  | .call f args => Fx D f (args.map (·.ev s)) H K
  | .callv x args => match x.ev s with
    | .clo f caps => Fx D f (args.map (·.ev s) ++ caps) H K
    | _ => False
  | i => wpI i s H K
def wpL : List In → (Nat → V) → List O → ((Nat → V) → List O → Prop) → Prop
  | [], s, H, Q => Q s H
  | ⟨d, g, i⟩ :: l, s, H, Q =>
    match g with
    | some (t, b) => match s t with
      | .lit (.bool c) => (c = b → wpU D i s H fun v H' => wpL l (put s d v) H' Q) ∧ (c ≠ b → wpL l (put s d .none_) H Q)
      | _ => wpL l (put s d .none_) H Q
    | none => wpU D i s H fun v H' => wpL l (put s d v) H' Q

def wpB : B → (Nat → V) → List O → (Ex → (Nat → V) → List O → Prop) → Prop
  | .ops l, s, H, Q => wpL D l s H (Q .normal)
  | .rsv k l, s, H, Q => wpL D (l.map (In.shift H.length)) s (H ++ List.replicate k .hole) (Q .normal)
  | .skip, s, H, Q => Q .normal s H
  | .ret, s, H, Q => Q .ret s H
  | .exit id, s, H, Q => Q (.exit id) s H
  | .seq a b, s, H, Q => wpB a s H (Ex.then (fun s H => wpB b s H Q) Q)
  | .cond c x y, s, H, Q => match c.ev s with
    | .lit (.bool t) => (t = true → wpB x s H Q) ∧ (t = false → wpB y s H Q)
    | _ => False
  | .block id b, s, H, Q => wpB b s H (Ex.inBlock id Q)
  | .loop b, s, H, Q => Bx D (.loop b) s H Q

variable {D : FuncId → Option Def}
theorem wpU_ok {i : Ins} {d : Option Nat} {l : List In} {s : Nat → V} {H : List O} {Q : (Nat → V) → List O → Prop} (h : wpU D i s H fun v H' => Lx D l (put s d v) H' Q) : Lx D (⟨d, none, i⟩ :: l) s H Q := by
  cases i with
  | call f args => exact Lx_call.2 h
  | callv x args =>
    simp only [wpU] at h
    cases hx : x.ev s <;> simp only [hx] at h <;> try exact h.elim
    exact (Lx_callv hx).2 h
  | _ =>
    simp only [wpU] at h
    obtain ⟨r, hr, h⟩ := wpI_ok h
    exact (Lx_cons (fun _ _ e => by cases e) (fun _ _ e => by cases e) rfl).2 ⟨r, hr, h⟩
theorem wpU_mono {i : Ins} {s : Nat → V} {H : List O} {K K' : V → List O → Prop} (hk : ∀ v H', K v H' → K' v H') (h : wpU D i s H K) : wpU D i s H K' ∨ ∃ r, evI i s H = some r ∧ K' r.1 r.2 := by
  cases i with
  | call f args => exact .inl (Fx_mono h hk)
  | callv x args =>
    left
    simp only [wpU] at h ⊢
    cases hx : x.ev s <;> simp only [hx] at h ⊢
    exact Fx_mono h hk
  | _ =>
    simp only [wpU] at h
    obtain ⟨r, hr, h⟩ := wpI_ok h
    exact .inr ⟨r, hr, hk _ _ h⟩
theorem wpL_ok : ∀ {l : List In} {s : Nat → V} {H : List O} {Q : (Nat → V) → List O → Prop}, wpL D l s H Q → Lx D l s H Q
  | [], s, H, Q, h => Lx_nil.2 h
  | ⟨d, g, i⟩ :: l, s, H, Q, h => by
    have main : (wpU D i s H fun v H' => wpL D l (put s d v) H' Q) → Lx D (⟨d, none, i⟩ :: l) s H Q := fun h => by
      rcases wpU_mono (K' := fun v H' => Lx D l (put s d v) H' Q) (fun v H' h => wpL_ok h) h with h | ⟨r, hr, h⟩
      · exact wpU_ok h
      · refine (Lx_cons (i := ⟨d, none, i⟩) (fun f a e => ?_) (fun x a e => ?_) rfl).2 ⟨r, hr, h⟩
        · simp only at e; subst e; simp [evI] at hr
        · simp only at e; subst e; simp [evI] at hr
    cases g with
    | some g =>
      obtain ⟨t, b⟩ := g
      simp only [wpL] at h
      have hskip : wantB s (some (t, b)) = false → wpL D l (put s d .none_) H Q → Lx D (⟨d, some (t, b), i⟩ :: l) s H Q := fun hw h => (Lx_skip hw).2 (wpL_ok h)
      cases ht : s t with
      | lit v =>
        cases v <;> simp only [ht] at h <;> try exact hskip (by simp [wantB, ht]) h
        rename_i c
        by_cases hc : c = b
        · exact (Lx_want (by simp [wantB, ht, hc])).2 (main (h.1 hc))
        · exact hskip (by simp [wantB, ht, hc]) (h.2 hc)
      | _ => simp only [ht] at h; exact hskip (by simp [wantB, ht]) h
    | none =>
      simp only [wpL] at h
      exact main h

theorem Ex.then_mono {K K' : (Nat → V) → List O → Prop} {Q : Ex → (Nat → V) → List O → Prop} (h : ∀ s H, K s H → K' s H) (e : Ex) (s : Nat → V) (H : List O) (hq : Ex.then K Q e s H) : Ex.then K' Q e s H := by
  cases e with
  | normal => exact h _ _ hq
  | exit id => exact hq
  | ret => exact hq
theorem wpB_ok : ∀ {b : B} {s : Nat → V} {H : List O} {Q : Ex → (Nat → V) → List O → Prop}, wpB D b s H Q → Bx D b s H Q
  | .ops _, _, _, _, h => Bx_ops.2 (wpL_ok h)
  | .rsv _ _, _, _, _, h => Bx_rsv.2 (wpL_ok h)
  | .skip, _, _, _, h => Bx_skip.2 h
  | .ret, _, _, _, h => Bx_ret.2 h
  | .exit _, _, _, _, h => Bx_exit.2 h
  | .seq _ _, _, _, _, h => by
    simp only [wpB] at h
    exact Bx_seq.2 (Bx_mono (wpB_ok h) fun e s H q => Ex.then_mono (fun _ _ => wpB_ok) e s H q)
  | .cond c x y, s, H, Q, h => by
    simp only [wpB] at h
    cases hc : c.ev s with
    | lit v =>
      cases v <;> simp only [hc] at h <;> try exact h.elim
      rename_i t
      cases t
      · exact (Bx_cond hc).2 (wpB_ok (h.2 rfl))
      · exact (Bx_cond hc).2 (wpB_ok (h.1 rfl))
    | _ => simp only [hc] at h
  | .block _ _, _, _, _, h => Bx_block.2 (wpB_ok h)
  | .loop _, _, _, _, h => h

/-- A function's contract, out of its code. -/
theorem Fx_of {f : FuncId} {fn : Fn} (hd : D f = some (.code false fn)) {args : List V} {H : List O} {Q : V → List O → Prop}
    (h : wpB D fn.body (argsAt args) H (Rx fn.res Q)) : Fx D f args H Q := (Fx_code hd).2 (wpB_ok h)
theorem Fx_ofp {f : FuncId} {fn : Fn} (hd : D f = some (.code true fn)) {args as : List V} {H : List O} {Q : V → List O → Prop} (ha : args.mapM (frz H depth) = some as)
    (h : wpB D fn.body (argsAt as) [] (Rx fn.res fun r H1 => ∃ r', out H1 depth r = some r' ∧ Q r' H)) : Fx D f args H Q := (Fx_pure hd ha).2 (wpB_ok h)
end Go.Proofs.Vm
/-! The same once more in a form that simp reckons: one rule an instruction, no binder on the way. -/
namespace Go.Proofs.Vm
open Go

/-- What comes behind an instruction. -/
def Cont (D : FuncId → Option Def) (l : List In) (s : Nat → V) (d : Option Nat) (Q : (Nat → V) → List O → Prop) (v : V) (H : List O) : Prop := wpL D l (put s d v) H Q
/-- What comes behind a piece of code. -/
def Nxt (D : FuncId → Option Def) (b : B) (Q : Ex → (Nat → V) → List O → Prop) : Ex → (Nat → V) → List O → Prop := Ex.then (fun s H => wpB D b s H Q) Q
def At (Q : Ex → (Nat → V) → List O → Prop) (e : Ex) : (Nat → V) → List O → Prop := Q e

def pickK (c a b : V) (H : List O) (K : V → List O → Prop) : Prop := match c with
  | .lit (.bool t) => K (bif t then a else b) H
  | _ => False
def binK (op : BinOp) (x y : V) (H : List O) (K : V → List O → Prop) : Prop := wpI (.bin op (.c x) (.c y)) (fun _ => .none_) H K
def beqK (neg : Bool) (x y : V) (H : List O) (K : V → List O → Prop) : Prop := wpI (.beq neg (.c x) (.c y)) (fun _ => .none_) H K
def aeqK (neg : Bool) (n : List Nat) (x y : V) (H : List O) (K : V → List O → Prop) : Prop := wpI (.aeq neg n (.c x) (.c y)) (fun _ => .none_) H K
def iaK (sz : Nat) (x i : V) (H : List O) (K : V → List O → Prop) : Prop := wpI (.ia sz (.c x) (.c i)) (fun _ => .none_) H K
def ldK (sz : Option Nat) (x : V) (H : List O) (K : V → List O → Prop) : Prop := wpI (.ld sz (.c x)) (fun _ => .none_) H K
def stK (sz : Nat) (x y : V) (H : List O) (K : V → List O → Prop) : Prop := wpI (.st sz (.c x) (.c y)) (fun _ => .none_) H K
def fldK (o : Nat) (sz : Option Nat) (x : V) (H : List O) (K : V → List O → Prop) : Prop := wpI (.fld o sz (.c x)) (fun _ => .none_) H K
def idxK (x i : V) (H : List O) (K : V → List O → Prop) : Prop := wpI (.idx (.c x) (.c i)) (fun _ => .none_) H K
def appK (t : TypeId) (sz bytes : Nat) (x y : V) (H : List O) (K : V → List O → Prop) : Prop := wpI (.app t sz bytes (.c x) (.c y)) (fun _ => .none_) H K
def mkK (t : TypeId) (sz bytes : Nat) (z : List V) (n c : V) (H : List O) (K : V → List O → Prop) : Prop := wpI (.mk t sz bytes z (.c n) (.c c)) (fun _ => .none_) H K
def boxK (l : List V) (t : TypeId) (H : List O) (K : V → List O → Prop) : Prop := (l.all V.leaf = true ∧ 0 < l.length) ∧ K (.optr H.length 0) (H ++ [.cells l t l.length])
def bslK (t : TypeId) (sz len : Nat) (l : Option (List V)) (H : List O) (K : V → List O → Prop) : Prop := match l with
  | some l => l.all V.leaf = true ∧ K (.osl H.length 0 len) (H ++ [.cells l t sz])
  | none => False
def optK (o : Option V) (H : List O) (K : V → List O → Prop) : Prop := match o with
  | some v => K v H
  | none => False
def readK (l : List V) (off : Nat) (sz : Option Nat) (H : List O) (K : V → List O → Prop) : Prop := match sz with
  | none => optK l[off]? H K
  | some n => off + n ≤ l.length ∧ K (.agg ((l.drop off).take n)) H
def ldO (sz : Option Nat) (off : Nat) (o : Option O) (H : List O) (K : V → List O → Prop) : Prop := match o with
  | some (.cells l _ _) => readK l off sz H K
  | _ => False
def stO (sz h o : Nat) (v : V) (ob : Option O) (H : List O) (K : V → List O → Prop) : Prop := match ob with
  | some (.cells l t z) => (v.cells.length = sz ∧ o + sz ≤ l.length ∧ v.cells.all V.leaf = true) ∧ K .none_ (H.set h (.cells (l.take o ++ v.cells ++ l.drop (o + sz)) t z))
  | _ => False
def cellsAt (H : List O) (h : Nat) : List V := match H[h]? with
  | some (.cells l _ _) => l
  | _ => []
def callvK (D : FuncId → Option Def) (x : V) (args : List V) (H : List O) (K : V → List O → Prop) : Prop := match x with
  | .clo f caps => Fx D f (args ++ caps) H K
  | _ => False
def condK (c : V) (p q : Prop) : Prop := match c with
  | .lit (.bool t) => (t = true → p) ∧ (t = false → q)
  | _ => False
def offV (k : Nat) : V → Option V
  | .optr h o => some (.optr h (o + k))
  | .fptr t l o => some (.fptr t l (o + k))
  | _ => none
def nilcV : V → Option V
  | .optr h o => some (.optr h o)
  | .fptr t l o => some (.fptr t l o)
  | _ => none
def slcK (sz : Nat) (x : V) (lo hi mx : Option V) (H : List O) (K : V → List O → Prop) : Prop := wpI (.slc sz (.c x) (lo.map .c) (hi.map .c) (mx.map .c)) (fun _ => .none_) H K

/-- An instruction whose operands are values. -/
def ev1 (i : Ins) (H : List O) : Option (V × List O) := evI i (fun _ => .none_) H
/-- What an instruction yields, handed on. -/
def pairK (o : Option (V × List O)) (K : V → List O → Prop) : Prop := wpO o fun r => K r.1 r.2
theorem pairK_s {v : V} {H : List O} {K : V → List O → Prop} : pairK (some (v, H)) K = K v H := _root_.id rfl

section
variable {D : FuncId → Option Def} {Q : (Nat → V) → List O → Prop} {s : Nat → V} {H : List O} {d : Option Nat} {l : List In} {x y z : Opd}
theorem L_nil : wpL D [] s H Q = Q s H := _root_.id rfl
theorem L_mv : wpL D (⟨d, none, .mv x⟩ :: l) s H Q = wpL D l (put s d (x.ev s)) H Q := _root_.id rfl
theorem L_pick : wpL D (⟨d, none, .pick x y z⟩ :: l) s H Q = pickK (x.ev s) (y.ev s) (z.ev s) H (Cont D l s d Q) := _root_.id rfl
theorem L_bin {op : BinOp} : wpL D (⟨d, none, .bin op x y⟩ :: l) s H Q = binK op (x.ev s) (y.ev s) H (Cont D l s d Q) := _root_.id rfl
theorem L_beq {n : Bool} : wpL D (⟨d, none, .beq n x y⟩ :: l) s H Q = beqK n (x.ev s) (y.ev s) H (Cont D l s d Q) := _root_.id rfl
theorem L_aeq {n : Bool} {m : List Nat} : wpL D (⟨d, none, .aeq n m x y⟩ :: l) s H Q = aeqK n m (x.ev s) (y.ev s) H (Cont D l s d Q) := _root_.id rfl
theorem L_snil {n : Bool} : wpL D (⟨d, none, .snil n x⟩ :: l) s H Q = pairK (ev1 (.snil n (.c (x.ev s))) H) (Cont D l s d Q) := _root_.id rfl
theorem L_un {op : UnOp} : wpL D (⟨d, none, .un op x⟩ :: l) s H Q = optK (unV op (x.ev s)) H (Cont D l s d Q) := by
  simp only [wpL, wpU, wpI, evI, optK, Cont]; cases unV op (x.ev s) <;> rfl
theorem L_wrap {k : IntKind} : wpL D (⟨d, none, .wrap k x⟩ :: l) s H Q = pairK (ev1 (.wrap k (.c (x.ev s))) H) (Cont D l s d Q) := _root_.id rfl
theorem L_str : wpL D (⟨d, none, .str x⟩ :: l) s H Q = pairK (ev1 (.str (.c (x.ev s))) H) (Cont D l s d Q) := _root_.id rfl
theorem L_sst : wpL D (⟨d, none, .sst x⟩ :: l) s H Q = pairK (ev1 (.sst (.c (x.ev s))) H) (Cont D l s d Q) := _root_.id rfl
theorem L_new {zs : List V} {t : TypeId} : wpL D (⟨d, none, .new zs t⟩ :: l) s H Q = wpL D l (put s d (.optr H.length 0)) (H ++ [.cells zs t zs.length]) Q := _root_.id rfl
theorem L_box {t : TypeId} : wpL D (⟨d, none, .box x t⟩ :: l) s H Q = boxK (x.ev s).cells t H (Cont D l s d Q) := _root_.id rfl
theorem L_build {zs : List V} {ps : List (Nat × Nat × Opd)} : wpL D (⟨d, none, .build zs ps⟩ :: l) s H Q = optK ((fillV s zs ps).map .agg) H (Cont D l s d Q) := by
  simp only [wpL, wpU, wpI, evI, optK, Cont]; cases fillV s zs ps <;> rfl
theorem L_bsl {t : TypeId} {sz len : Nat} {zs : List V} {ps : List (Nat × Nat × Opd)} : wpL D (⟨d, none, .bsl t sz len zs ps⟩ :: l) s H Q = bslK t sz len (fillV s ((List.replicate len zs).flatten) ps) H (Cont D l s d Q) := by
  simp only [wpL, wpU, wpI, evI, bslK, Cont]
  cases fillV s ((List.replicate len zs).flatten) ps with
  | none => rfl
  | some r =>
    simp only
    by_cases hl : r.all V.leaf = true
    · rw [if_pos hl]; simp only [wpO, hl, true_and]
    · rw [if_neg hl]; simp only [wpO, hl]; simp
theorem L_ld {sz : Option Nat} : wpL D (⟨d, none, .ld sz x⟩ :: l) s H Q = ldK sz (x.ev s) H (Cont D l s d Q) := _root_.id rfl
theorem L_st {sz : Nat} : wpL D (⟨d, none, .st sz x y⟩ :: l) s H Q = stK sz (x.ev s) (y.ev s) H (Cont D l s d Q) := _root_.id rfl
theorem L_nilc : wpL D (⟨d, none, .nilc x⟩ :: l) s H Q = optK (nilcV (x.ev s)) H (Cont D l s d Q) := by
  simp only [wpL, wpU, wpI, evI, optK, Cont]; cases x.ev s <;> rfl
theorem L_off {k : Nat} : wpL D (⟨d, none, .off k x⟩ :: l) s H Q = optK (offV k (x.ev s)) H (Cont D l s d Q) := by
  simp only [wpL, wpU, wpI, evI, optK, Cont]; cases x.ev s <;> rfl
theorem L_fld {o : Nat} {sz : Option Nat} : wpL D (⟨d, none, .fld o sz x⟩ :: l) s H Q = fldK o sz (x.ev s) H (Cont D l s d Q) := _root_.id rfl
theorem L_ia {sz : Nat} : wpL D (⟨d, none, .ia sz x y⟩ :: l) s H Q = iaK sz (x.ev s) (y.ev s) H (Cont D l s d Q) := _root_.id rfl
theorem L_idx : wpL D (⟨d, none, .idx x y⟩ :: l) s H Q = idxK (x.ev s) (y.ev s) H (Cont D l s d Q) := _root_.id rfl
theorem L_ixa {sz : Option Nat} {n : Nat} : wpL D (⟨d, none, .ixa sz n x y⟩ :: l) s H Q = pairK (ev1 (.ixa sz n (.c (x.ev s)) (.c (y.ev s))) H) (Cont D l s d Q) := _root_.id rfl
theorem L_slen : wpL D (⟨d, none, .slen x⟩ :: l) s H Q = pairK (ev1 (.slen (.c (x.ev s))) H) (Cont D l s d Q) := _root_.id rfl
theorem L_len : wpL D (⟨d, none, .len x⟩ :: l) s H Q = optK ((lenV (x.ev s)).map fun (n : Nat) => V.int n) H (Cont D l s d Q) := by
  simp only [wpL, wpU, wpI, evI, optK, Cont]; cases lenV (x.ev s) <;> rfl
theorem L_cap : wpL D (⟨d, none, .cap x⟩ :: l) s H Q = pairK (ev1 (.cap (.c (x.ev s))) H) (Cont D l s d Q) := _root_.id rfl
theorem L_app {t : TypeId} {sz bytes : Nat} : wpL D (⟨d, none, .app t sz bytes x y⟩ :: l) s H Q = appK t sz bytes (x.ev s) (y.ev s) H (Cont D l s d Q) := _root_.id rfl
theorem L_stD {ks : List Nat} {sz : Nat} : wpL D (⟨d, none, .stD ks sz x y⟩ :: l) s H Q = (ks.all (fun k => apartV (s k) (x.ev s)) = true ∧ stK sz (x.ev s) (y.ev s) H (Cont D l s d Q)) := _root_.id rfl
theorem L_appD {ks : List Nat} {t : TypeId} {sz bytes : Nat} : wpL D (⟨d, none, .appD ks t sz bytes x y⟩ :: l) s H Q = (ks.all (fun k => apartV (s k) (x.ev s)) = true ∧ appK t sz bytes (x.ev s) (y.ev s) H (Cont D l s d Q)) := _root_.id rfl
theorem L_iaa {sz n : Nat} : wpL D (⟨d, none, .iaa sz n x y⟩ :: l) s H Q = pairK (ev1 (.iaa sz n (.c (x.ev s)) (.c (y.ev s))) H) (Cont D l s d Q) := _root_.id rfl
theorem L_bsz {t : TypeId} {sz : Nat} : wpL D (⟨d, none, .bsz t sz⟩ :: l) s H Q = wpL D l (put s d .zsl) (H ++ [.cells [] t sz]) Q := _root_.id rfl
theorem L_mk {t : TypeId} {sz bytes : Nat} {zs : List V} : wpL D (⟨d, none, .mk t sz bytes zs x y⟩ :: l) s H Q = mkK t sz bytes zs (x.ev s) (y.ev s) H (Cont D l s d Q) := _root_.id rfl
theorem L_slc {sz : Nat} {a b c : Option Opd} : wpL D (⟨d, none, .slc sz x a b c⟩ :: l) s H Q = slcK sz (x.ev s) (a.map (·.ev s)) (b.map (·.ev s)) (c.map (·.ev s)) H (Cont D l s d Q) := by
  cases a <;> cases b <;> cases c <;> rfl
theorem L_ext {i : Nat} : wpL D (⟨d, none, .ext i x⟩ :: l) s H Q = pairK (ev1 (.ext i (.c (x.ev s))) H) (Cont D l s d Q) := _root_.id rfl
theorem L_clo {f : FuncId} {cs : List Opd} : wpL D (⟨d, none, .clo f cs⟩ :: l) s H Q = wpL D l (put s d (.clo f (cs.map (·.ev s)))) H Q := _root_.id rfl
theorem L_call {f : FuncId} {as : List Opd} : wpL D (⟨d, none, .call f as⟩ :: l) s H Q = Fx D f (as.map (·.ev s)) H (Cont D l s d Q) := _root_.id rfl
theorem L_callv {as : List Opd} : wpL D (⟨d, none, .callv x as⟩ :: l) s H Q = callvK D (x.ev s) (as.map (·.ev s)) H (Cont D l s d Q) := by
  simp only [wpL, wpU, callvK]; cases x.ev s <;> rfl
theorem Cont_at {v : V} : Cont D l s d Q v H = wpL D l (put s d v) H Q := _root_.id rfl

variable {R : Ex → (Nat → V) → List O → Prop} {a b : B} {t : Nat} {v w : V} {K : V → List O → Prop}
theorem L_appz {t : TypeId} {sz bytes : Nat} {zs : List V} : wpL D (⟨d, none, .appz t sz bytes zs x y⟩ :: l) s H Q = pairK (ev1 (.appz t sz bytes zs (.c (x.ev s)) (.c (y.ev s))) H) (Cont D l s d Q) := _root_.id rfl
theorem L_clr {sz : Nat} {zs : List V} : wpL D (⟨d, none, .clr sz zs x⟩ :: l) s H Q = pairK (ev1 (.clr sz zs (.c (x.ev s))) H) (Cont D l s d Q) := _root_.id rfl
theorem L_gt {t : Nat} {b : Bool} {i : Ins} (h : s t = .lit (.bool b)) : wpL D (⟨d, some (t, b), i⟩ :: l) s H Q = wpL D (⟨d, none, i⟩ :: l) s H Q := by
  simp only [wpL, h, ne_eq, not_true_eq_false, false_implies, and_true, forall_const]
theorem L_gf {t : Nat} {b c : Bool} {i : Ins} (h : s t = .lit (.bool c)) (hc : (c == b) = false) : wpL D (⟨d, some (t, b), i⟩ :: l) s H Q = wpL D l (put s d .none_) H Q := by
  have hc : c ≠ b := by simpa using hc
  simp only [wpL, h, hc, ne_eq, not_false_eq_true, false_implies, true_and, forall_const]
theorem L_gn {t : Nat} {b : Bool} {i : Ins} (h : s t = .none_) : wpL D (⟨d, some (t, b), i⟩ :: l) s H Q = wpL D l (put s d .none_) H Q := by
  simp only [wpL, h, V.none_]
theorem L_sls {a b : Option Opd} : wpL D (⟨d, none, .sls x a b⟩ :: l) s H Q = pairK (ev1 (.sls (.c (x.ev s)) (a.map fun o => .c (o.ev s)) (b.map fun o => .c (o.ev s))) H) (Cont D l s d Q) := by
  cases a <;> cases b <;> rfl
theorem L_mkm {n : Nat} : wpL D (⟨d, none, .mkm n⟩ :: l) s H Q = wpL D l (put s d (.omap H.length)) (H ++ [.map n []]) Q := _root_.id rfl
theorem L_lkm {n : Nat} : wpL D (⟨d, none, .lkm n x y⟩ :: l) s H Q = pairK (ev1 (.lkm n (.c (x.ev s)) (.c (y.ev s))) H) (Cont D l s d Q) := _root_.id rfl
theorem L_upm {n : Nat} : wpL D (⟨d, none, .upm n x y z⟩ :: l) s H Q = pairK (ev1 (.upm n (.c (x.ev s)) (.c (y.ev s)) (.c (z.ev s))) H) (Cont D l s d Q) := _root_.id rfl
theorem L_fill {p : Nat} {a : Alc} : wpL D (⟨d, none, .fill p a⟩ :: l) s H Q = pairK (evFill p a s H) (Cont D l s d Q) := _root_.id rfl
theorem B_rsv {k : Nat} : wpB D (.rsv k l) s H R = wpL D (l.map (In.shift H.length)) s (H ++ List.replicate k .hole) (At R .normal) := _root_.id rfl
theorem B_ops : wpB D (.ops l) s H R = wpL D l s H (At R .normal) := _root_.id rfl
theorem At_at {e : Ex} : At R e s H = R e s H := _root_.id rfl
theorem B_skip : wpB D .skip s H R = R .normal s H := _root_.id rfl
theorem B_ret : wpB D .ret s H R = R .ret s H := _root_.id rfl
theorem B_exit {id : Nat} : wpB D (.exit id) s H R = R (.exit id) s H := _root_.id rfl
theorem B_seq : wpB D (.seq a b) s H R = wpB D a s H (Nxt D b R) := _root_.id rfl
theorem B_cond : wpB D (.cond x a b) s H R = condK (x.ev s) (wpB D a s H R) (wpB D b s H R) := _root_.id rfl
theorem B_block {id : Nat} : wpB D (.block id a) s H R = wpB D a s H (Ex.inBlock id R) := _root_.id rfl
theorem B_loop : wpB D (.loop a) s H R = Bx D (.loop a) s H R := _root_.id rfl
theorem N_n : Nxt D b R .normal s H = wpB D b s H R := _root_.id rfl
theorem N_r : Nxt D b R .ret s H = R .ret s H := _root_.id rfl
theorem N_e {id : Nat} : Nxt D b R (.exit id) s H = R (.exit id) s H := _root_.id rfl
theorem T_n {K : (Nat → V) → List O → Prop} : Ex.then K R .normal s H = K s H := _root_.id rfl
theorem T_r {K : (Nat → V) → List O → Prop} : Ex.then K R .ret s H = R .ret s H := _root_.id rfl
theorem T_e {K : (Nat → V) → List O → Prop} {id : Nat} : Ex.then K R (.exit id) s H = R (.exit id) s H := _root_.id rfl
theorem I_n {id : Nat} : Ex.inBlock id R .normal s H = R .normal s H := _root_.id rfl
theorem I_r {id : Nat} : Ex.inBlock id R .ret s H = R .ret s H := _root_.id rfl
theorem I_e {id id' : Nat} : Ex.inBlock id R (.exit id') s H = if id' = id then R .normal s H else R (.exit id') s H := _root_.id rfl

theorem ev_t : (Opd.t t).ev s = s t := _root_.id rfl
theorem ev_c : (Opd.c v).ev s = v := _root_.id rfl
theorem put_s {k : Nat} : put s (some k) v = upd s k v := _root_.id rfl
theorem put_n : put s none v = s := _root_.id rfl
theorem upd_at {k : Nat} : upd s k v t = if t = k then v else s t := _root_.id rfl
theorem args_at {as : List V} : argsAt as t = as.getD t .none_ := _root_.id rfl
theorem cells_agg {c : List V} : (V.agg c).cells = c := _root_.id rfl
theorem cells_lit {u : Value} (h : ∀ cs, u ≠ .agg cs) : (V.lit u).cells = [V.lit u] := by cases u <;> first | rfl | exact absurd rfl (h _)
theorem cells_b {c : Bool} : (V.lit (.bool c)).cells = [V.lit (.bool c)] := _root_.id rfl
theorem cells_i {k : IntKind} {n : Int} : (V.lit (.int k n)).cells = [V.lit (.int k n)] := _root_.id rfl
theorem cells_s {c : ByteArray} : (V.lit (.string c)).cells = [V.lit (.string c)] := _root_.id rfl
theorem cells_sl {p : Option Addr} {m n : Nat} : (V.lit (.slice p m n)).cells = [V.lit (.slice p m n)] := _root_.id rfl
theorem cells_p {p : Option Addr} : (V.lit (.pointer p)).cells = [V.lit (.pointer p)] := _root_.id rfl
theorem cells_osl {h o n : Nat} : (V.osl h o n).cells = [V.osl h o n] := _root_.id rfl
theorem cells_fsl {q : Bool} {c : List V} {n : Nat} : (V.fsl q c n).cells = [V.fsl q c n] := _root_.id rfl
theorem cells_optr {h o : Nat} : (V.optr h o).cells = [V.optr h o] := _root_.id rfl
theorem cells_fptr {q : Bool} {c : List V} {o : Nat} : (V.fptr q c o).cells = [V.fptr q c o] := _root_.id rfl

theorem pick_b {c : Bool} {v w : V} : pickK (.lit (.bool c)) v w H K = K (bif c then v else w) H := _root_.id rfl
section
variable {k : IntKind} {m n : Int}
theorem bin_add : binK .add (.lit (.int k m)) (.lit (.int k n)) H K = K (.lit (.int k (k.wrap (m + n)))) H := by simp [binK, wpI, Opd.ev, wpBin]
theorem bin_sub : binK .sub (.lit (.int k m)) (.lit (.int k n)) H K = K (.lit (.int k (k.wrap (m - n)))) H := by simp [binK, wpI, Opd.ev, wpBin]
theorem bin_mul : binK .mul (.lit (.int k m)) (.lit (.int k n)) H K = K (.lit (.int k (k.wrap (m * n)))) H := by simp [binK, wpI, Opd.ev, wpBin]
theorem bin_quo : binK .quo (.lit (.int k m)) (.lit (.int k n)) H K = (n ≠ 0 ∧ K (.lit (.int k (k.wrap (m.tdiv n)))) H) := by simp [binK, wpI, Opd.ev, wpBin]
theorem bin_rem : binK .rem (.lit (.int k m)) (.lit (.int k n)) H K = (n ≠ 0 ∧ K (.lit (.int k (m.tmod n))) H) := by simp [binK, wpI, Opd.ev, wpBin]
theorem bin_and : binK .and (.lit (.int k m)) (.lit (.int k n)) H K = K (.lit (.int k (bits .and k m n))) H := by simp [binK, wpI, Opd.ev, wpBin]
theorem bin_or : binK .or (.lit (.int k m)) (.lit (.int k n)) H K = K (.lit (.int k (bits .or k m n))) H := by simp [binK, wpI, Opd.ev, wpBin]
theorem bin_xor : binK .xor (.lit (.int k m)) (.lit (.int k n)) H K = K (.lit (.int k (bits .xor k m n))) H := by simp [binK, wpI, Opd.ev, wpBin]
theorem bin_eql : binK .eql (.lit (.int k m)) (.lit (.int k n)) H K = K (.bool (m == n)) H := by simp [binK, wpI, Opd.ev, wpBin]
theorem bin_neq : binK .neq (.lit (.int k m)) (.lit (.int k n)) H K = K (.bool (m != n)) H := by simp [binK, wpI, Opd.ev, wpBin]
theorem bin_lss : binK .lss (.lit (.int k m)) (.lit (.int k n)) H K = K (.bool (decide (m < n))) H := by simp [binK, wpI, Opd.ev, wpBin]
theorem bin_leq : binK .leq (.lit (.int k m)) (.lit (.int k n)) H K = K (.bool (decide (m ≤ n))) H := by simp [binK, wpI, Opd.ev, wpBin]
theorem bin_gtr : binK .gtr (.lit (.int k m)) (.lit (.int k n)) H K = K (.bool (decide (m > n))) H := by simp [binK, wpI, Opd.ev, wpBin]
theorem bin_geq : binK .geq (.lit (.int k m)) (.lit (.int k n)) H K = K (.bool (decide (m ≥ n))) H := by simp [binK, wpI, Opd.ev, wpBin]
theorem bin_shl {k' : IntKind} : binK .shl (.lit (.int k m)) (.lit (.int k' n)) H K = (0 ≤ n ∧ K (.lit (.int k (k.wrap (m * 2 ^ min n.toNat k.bits)))) H) := by simp [binK, wpI, Opd.ev, wpBin]
theorem bin_shr {k' : IntKind} : binK .shr (.lit (.int k m)) (.lit (.int k' n)) H K = (0 ≤ n ∧ K (.lit (.int k (m.fdiv (2 ^ min n.toNat k.bits)))) H) := by simp [binK, wpI, Opd.ev, wpBin]
theorem bin_seq {p q : ByteArray} : binK .eql (.lit (.string p)) (.lit (.string q)) H K = K (.bool (p.toList == q.toList)) H := by simp [binK, wpI, Opd.ev]
theorem bin_sne {p q : ByteArray} : binK .neq (.lit (.string p)) (.lit (.string q)) H K = K (.bool (!(p.toList == q.toList))) H := by simp [binK, wpI, Opd.ev]
theorem beq_at {g : Bool} {p q : Bool} : beqK g (.lit (.bool p)) (.lit (.bool q)) H K = K (.bool (bif g then !(p == q) else p == q)) H := _root_.id rfl
theorem aeq_at {g : Bool} {c : List Nat} {p q : List V} (h1 : p.length = c.length) (h2 : q.length = c.length) : aeqK g c (.agg p) (.agg q) H K = optK ((leavesEq c p q).map fun r => .bool (if g then !r else r)) H K := by
  simp only [aeqK, wpI, evI, Opd.ev, optK]; rw [if_pos ⟨h1, h2⟩]; cases leavesEq c p q <;> rfl
theorem ia_osl {sz h o c : Nat} : iaK sz (.osl h o c) (.lit (.int k n)) H K = ((0 ≤ n ∧ n < c) ∧ K (.optr h (o + n.toNat * sz)) H) := _root_.id rfl
theorem ia_fsl {sz c : Nat} {q : Bool} {p : List V} : iaK sz (.fsl q p c) (.lit (.int k n)) H K = ((0 ≤ n ∧ n < c ∧ n.toNat * sz < p.length) ∧ K (.fptr q p (n.toNat * sz)) H) := _root_.id rfl
theorem idx_at {p : ByteArray} : idxK (.lit (.string p)) (.lit (.int k n)) H K = ∃ h : 0 ≤ n ∧ n.toNat < p.size, K (.lit (.int .u8 ((p[n.toNat]'h.2).toNat : Int))) H := _root_.id rfl
theorem ext_at {i : Nat} {p : List V} : ev1 (.ext i (.c (.tup p))) H = (p[i]?).map (·, H) := _root_.id rfl
theorem wrap_at {k' : IntKind} : ev1 (.wrap k (.c (.lit (.int k' n)))) H = some (.lit (.int k (k.wrap n)), H) := _root_.id rfl
end
theorem ld_f {sz : Option Nat} {q : Bool} {p : List V} {o : Nat} : ldK sz (.fptr q p o) H K = readK p o sz H K := by
  cases sz with
  | none => simp only [ldK, wpI, Opd.ev, wpRead, readK, optK]; cases p[o]? <;> simp
  | some n => rfl
theorem ld_o {sz : Option Nat} {h o : Nat} : ldK sz (.optr h o) H K = ldO sz o H[h]? H K := by
  simp only [ldK, wpI, Opd.ev, ldO]
  cases H[h]? with
  | none => rfl
  | some ob => cases ob with
    | cells p t z => cases sz with
      | none => simp only [wpRead, readK, optK]; cases p[o]? <;> simp
      | some n => rfl
    | _ => rfl
theorem ldO_c {sz : Option Nat} {o : Nat} {p : List V} {t z : Nat} : ldO sz o (some (.cells p t z)) H K = readK p o sz H K := _root_.id rfl
theorem st_o {sz h o : Nat} : stK sz (.optr h o) v H K = stO sz h o v H[h]? H K := by
  simp only [stK, wpI, Opd.ev, stO]
  all_goals (rcases H[h]? with _ | ob)
  all_goals (first | rfl | (cases ob <;> rfl))
theorem stO_c {sz h o : Nat} {p : List V} {t z : Nat} : stO sz h o v (some (.cells p t z)) H K =
    ((v.cells.length = sz ∧ o + sz ≤ p.length ∧ v.cells.all V.leaf = true) ∧ K .none_ (H.set h (.cells (p.take o ++ v.cells ++ p.drop (o + sz)) t z))) := _root_.id rfl
theorem fld_at {o : Nat} {sz : Option Nat} {p : List V} : fldK o sz (.agg p) H K = readK p o sz H K := by
  cases sz with
  | none => simp only [fldK, wpI, Opd.ev, wpRead, readK, optK]; cases p[o]? <;> simp
  | some n => rfl
theorem read_n {p : List V} {o : Nat} : readK p o none H K = optK p[o]? H K := _root_.id rfl
theorem read_s {p : List V} {o n : Nat} : readK p o (some n) H K = (o + n ≤ p.length ∧ K (.agg ((p.drop o).take n)) H) := _root_.id rfl
theorem opt_s : optK (some v) H K = K v H := _root_.id rfl
theorem opt_map {α : Type} {f : α → V} {u : α} : optK (Option.map f (some u)) H K = K (f u) H := _root_.id rfl
theorem wpO_s {α : Type} {u : α} {P : α → Prop} : wpO (some u) P = P u := _root_.id rfl
theorem off_o {k h o : Nat} : offV k (.optr h o) = some (.optr h (o + k)) := _root_.id rfl
theorem off_f {k : Nat} {q : Bool} {p : List V} {o : Nat} : offV k (.fptr q p o) = some (.fptr q p (o + k)) := _root_.id rfl
theorem nilc_o {h o : Nat} : nilcV (.optr h o) = some (.optr h o) := _root_.id rfl
theorem nilc_f {q : Bool} {p : List V} {o : Nat} : nilcV (.fptr q p o) = some (.fptr q p o) := _root_.id rfl
theorem box_at {p : List V} {t : TypeId} : boxK p t H K = ((p.all V.leaf = true ∧ 0 < p.length) ∧ K (.optr H.length 0) (H ++ [.cells p t p.length])) := _root_.id rfl
theorem bsl_at {p : List V} {t sz len : Nat} : bslK t sz len (some p) H K = (p.all V.leaf = true ∧ K (.osl H.length 0 len) (H ++ [.cells p t sz])) := _root_.id rfl
theorem un_not {c : Bool} : unV .not (.lit (.bool c)) = some (.bool (!c)) := _root_.id rfl
theorem un_xor {k : IntKind} {n : Int} : unV .xor (.lit (.int k n)) = some (.lit (.int k (bits .xor k (if k.signed then -1 else k.max) n))) := _root_.id rfl
theorem un_neg {k : IntKind} {n : Int} : unV .neg (.lit (.int k n)) = some (.lit (.int k (k.wrap (0 - n)))) := _root_.id rfl
theorem len_nil : lenV (.lit (.slice none 0 0)) = some 0 := _root_.id rfl
theorem len_zsl : lenV .zsl = some 0 := _root_.id rfl
theorem len_osl {h o n : Nat} : lenV (.osl h o n) = some n := _root_.id rfl
theorem len_fsl {q : Bool} {p : List V} {n : Nat} : lenV (.fsl q p n) = some n := _root_.id rfl
theorem len_str {p : ByteArray} : lenV (.lit (.string p)) = none := _root_.id rfl
theorem mk_at {t : TypeId} {sz bytes : Nat} {zs : List V} {m n : Int} : mkK t sz bytes zs (.lit (.int .i64 m)) (.lit (.int .i64 n)) H K =
    ((0 ≤ m ∧ m ≤ n ∧ n * bytes ≤ 140737488355328) ∧ K (.osl H.length 0 m.toNat) (H ++ [.cells ((List.replicate n.toNat zs).flatten) t sz])) := _root_.id rfl
theorem callv_at {f : FuncId} {cs as : List V} : callvK D (.clo f cs) as H K = Fx D f (as ++ cs) H K := _root_.id rfl
theorem cond_at {c : Bool} {p q : Prop} : condK (.lit (.bool c)) p q = ((c = true → p) ∧ (c = false → q)) := _root_.id rfl
theorem fill_nil {cs : List V} : fillV s cs [] = some cs := _root_.id rfl
theorem fill_cons {cs : List V} {o n : Nat} {ps : List (Nat × Nat × Opd)} : fillV s cs ((o, n, x) :: ps) = if (x.ev s).cells.length = n ∧ o + n ≤ cs.length then fillV s (cs.take o ++ (x.ev s).cells ++ cs.drop (o + n)) ps else none := _root_.id rfl
theorem Rx_n {rs : List Res} {P : V → List O → Prop} : Rx rs P .normal s H = ∃ vs, evRs s H rs = some vs ∧ P (one vs) H := _root_.id rfl
theorem Rx_r {rs : List Res} {P : V → List O → Prop} : Rx rs P .ret s H = ∃ vs, evRs s H rs = some vs ∧ P (one vs) H := _root_.id rfl
theorem leaf_b {c : Bool} : (V.lit (.bool c)).leaf = true := _root_.id rfl
theorem leaf_s {p : ByteArray} : (V.lit (.string p)).leaf = true := _root_.id rfl
theorem leaf_i {k : IntKind} {n : Int} : (V.lit (.int k n)).leaf = true := _root_.id rfl
theorem leaf_nil {p : Option Addr} {m n : Nat} : (V.lit (.slice p m n)).leaf = true := _root_.id rfl
theorem leaf_fsl {q : Bool} {p : List V} {n : Nat} : (V.fsl q p n).leaf = true := _root_.id rfl
theorem leaf_osl {h o n : Nat} : (V.osl h o n).leaf = true := _root_.id rfl
theorem leaf_optr {h o : Nat} : (V.optr h o).leaf = true := _root_.id rfl
theorem leaf_fptr {q : Bool} {p : List V} {n : Nat} : (V.fptr q p n).leaf = true := _root_.id rfl
theorem leaf_clo {f : FuncId} {p : List V} : (V.clo f p).leaf = true := _root_.id rfl
/-! What a call that only reads hands back. -/
theorem out_lit {u : Value} : out H depth (.lit u) = some (.lit u) := _root_.id rfl
theorem out_zsl : out H depth .zsl = some .zsl := _root_.id rfl
theorem out_fsl {p : List V} {n : Nat} : out H depth (.fsl false p n) = some (.fsl false p n) := _root_.id rfl
theorem out_agg {p : List V} : out H depth (.agg p) = (p.mapM (out H 11)).map .agg := _root_.id rfl
theorem out_tup {p : List V} : out H depth (.tup p) = (p.mapM (out H 11)).map .tup := _root_.id rfl
theorem out_osl {h o n : Nat} : out H depth (.osl h o n) = match getO H h with
      | some (l, _, sz) => if o + n * sz ≤ l.length then (((l.drop o).take (n * sz)).mapM (out H 11)).map fun l => .fsl false l n else none
      | none => none := _root_.id rfl
theorem out1_lit {u : Value} : out H 11 (.lit u) = some (.lit u) := _root_.id rfl
theorem out1_zsl : out H 11 .zsl = some .zsl := _root_.id rfl
theorem out1_fsl {p : List V} {n : Nat} : out H 11 (.fsl false p n) = some (.fsl false p n) := _root_.id rfl
theorem out1_agg {p : List V} : out H 11 (.agg p) = (p.mapM (out H 10)).map .agg := _root_.id rfl
theorem out1_osl {h o n : Nat} : out H 11 (.osl h o n) = match getO H h with
      | some (l, _, sz) => if o + n * sz ≤ l.length then (((l.drop o).take (n * sz)).mapM (out H 10)).map fun l => .fsl false l n else none
      | none => none := _root_.id rfl
theorem out2_lit {u : Value} : out H 10 (.lit u) = some (.lit u) := _root_.id rfl
theorem mapM_nil' {f : V → Option V} : ([] : List V).mapM f = some [] := _root_.id rfl
theorem mapM_cons' {f : V → Option V} {x : V} {p : List V} : (x :: p).mapM f = (f x).bind fun y => (p.mapM f).bind fun ys => some (y :: ys) := by simp [List.mapM_cons]
theorem getO_at {h : Nat} : getO H h = match H[h]? with
  | some (.cells l t sz) => some (l, t, sz)
  | _ => none := _root_.id rfl
theorem evRs_nil : evRs s H [] = some [] := _root_.id rfl
theorem evRs_t {n : Nat} {rs : List Res} : evRs s H (.t n :: rs) = (evRs s H rs).map (s n :: ·) := by
  simp only [evRs, evR]; cases evRs s H rs <;> rfl
theorem evRs_cell {n : Nat} {sz : Option Nat} {rs : List Res} : evRs s H (.cell n sz :: rs) = (evR s H (.cell n sz)).bind fun v => (evRs s H rs).map (v :: ·) := by
  simp only [evRs]; cases evR s H (.cell n sz) <;> cases evRs s H rs <;> rfl
theorem evR_cell {n : Nat} {sz : Option Nat} : evR s H (.cell n sz) = match s n with
    | .optr h o => (getO H h).bind fun p => readV p.1 o sz
    | _ => none := _root_.id rfl
theorem one_1 {v : V} : one [v] = v := _root_.id rfl
theorem one_2 {v w : V} {p : List V} : one (v :: w :: p) = .tup (v :: w :: p) := _root_.id rfl
theorem one_0 : one [] = .tup [] := _root_.id rfl
end
end Go.Proofs.Vm
/-! How the abstract machine's values, slots and objects stand to the machine's. -/
namespace Go.Proofs.Vm
open Go

/-! ### 1. Foreign memory, places of objects -/
abbrev Mem := Nat → Option Obj
def rdC (m : Mem) (b o : Nat) : Option Value :=
  match m b with
  | some (.cells c _ _) => c[o]?
  | _ => none
def Mem.le (m m' : Mem) : Prop := ∀ b o, m b = some o → m' b = some o
theorem rdC_le {m m' : Mem} (h : m.le m') {b o : Nat} {v : Value} (e : rdC m b o = some v) : rdC m' b o = some v := by
  unfold rdC at *
  cases hm : m b with
  | none => rw [hm] at e; cases e
  | some x => rw [hm] at e; rw [h b x hm]; exact e
theorem rdC_cell {m : Mem} {w : World} (h : ∀ b o, m b = some o → w.heap[b]? = some o) {b o : Nat} {v : Value} (e : rdC m b o = some v) : w.cell? ⟨b, o, none⟩ = some v := by
  unfold rdC at e
  cases hm : m b with
  | none => rw [hm] at e; cases e
  | some x =>
    rw [hm] at e
    cases x <;> simp only at e <;> try cases e
    simp [World.cell?, h b _ hm, e]

/-- Where an object lies: its block, an element's cells, how many elements there is room for. -/
structure Loc where
  blk : Nat
  sz : Nat
  cap : Nat

/-! ### 2. Values -/
/-- A value without own objects: what is not 'tainted' lies in the first memory, all in the second. -/
inductive FR (m0 m1 : Mem) : Bool → V → Value → Prop
  | lit (c : Bool) (v : Value) : FR m0 m1 c (.lit v) v
  | zsl (c : Bool) (A : Option Addr) : FR m0 m1 c .zsl (.slice A 0 0)
  | agg (c : Bool) (l : List V) (arr : Array Value) : l.length = arr.size → (∀ j (h : j < l.length) (h' : j < arr.size), FR m0 m1 c l[j] arr[j]) → FR m0 m1 c (.agg l) (.agg arr)
  | tup (c : Bool) (l : List V) (arr : Array Value) : l.length = arr.size → (∀ j (h : j < l.length) (h' : j < arr.size), FR m0 m1 c l[j] arr[j]) → FR m0 m1 c (.tup l) (.tuple arr)
  | fsl (c b : Bool) (l : List V) (len cap : Nat) (A : Option Addr) (B o : Nat) (vs : Nat → Value) : (b = true → c = true) → len ≤ cap → (l ≠ [] → A = some ⟨B, o, none⟩) →
      (∀ j, j < l.length → rdC (if b then m1 else m0) B (o + j) = some (vs j) ∧ (vs j).oneCell' = true) → (∀ j (h : j < l.length), FR m0 m1 b l[j] (vs j)) → FR m0 m1 c (.fsl b l len) (.slice A len cap)
  | fptr (c b : Bool) (l : List V) (off B o : Nat) (vs : Nat → Value) : (b = true → c = true) →
      (∀ j, j < l.length → rdC (if b then m1 else m0) B (o + j) = some (vs j) ∧ (vs j).oneCell' = true) → (∀ j (h : j < l.length), FR m0 m1 b l[j] (vs j)) → FR m0 m1 c (.fptr b l off) (.pointer (some ⟨B, o + off, none⟩))

/-- A number that an object has. (Others are kept for objects to come.) -/
def Own (n : Nat) (Lc : Nat → Loc) (h : Nat) : Prop := h < n ∧ 0 < (Lc h).sz
theorem Own.mono {n n' : Nat} {Lc Lc' : Nat → Loc} (hn : n ≤ n') {h : Nat} (ho : Own n Lc h) (hL : Lc' h = Lc h) : Own n' Lc' h := ⟨Nat.lt_of_lt_of_le ho.1 hn, by rw [hL]; exact ho.2⟩

/-- A value of the call at hand. -/
inductive VR (n : Nat) (Lc : Nat → Loc) (m0 m1 : Mem) : V → Value → Prop
  | fr {v : V} {x : Value} : FR m0 m1 true v x → VR n Lc m0 m1 v x
  | agg (l : List V) (arr : Array Value) : l.length = arr.size → (∀ j (h : j < l.length) (h' : j < arr.size), VR n Lc m0 m1 l[j] arr[j]) → VR n Lc m0 m1 (.agg l) (.agg arr)
  | tup (l : List V) (arr : Array Value) : l.length = arr.size → (∀ j (h : j < l.length) (h' : j < arr.size), VR n Lc m0 m1 l[j] arr[j]) → VR n Lc m0 m1 (.tup l) (.tuple arr)
  | osl (h off len cap : Nat) : Own n Lc h → len ≤ cap → off + cap * (Lc h).sz = (Lc h).cap * (Lc h).sz → VR n Lc m0 m1 (.osl h off len) (.slice (some ⟨(Lc h).blk, off, none⟩) len cap)
  | optr (h off : Nat) : Own n Lc h → VR n Lc m0 m1 (.optr h off) (.pointer (some ⟨(Lc h).blk, off, none⟩))
  | clo (f : FuncId) (l : List V) (arr : Array Value) : l.length = arr.size → (∀ j (h : j < l.length) (h' : j < arr.size), VR n Lc m0 m1 l[j] arr[j]) → VR n Lc m0 m1 (.clo f l) (.func (.func f) #[] arr)
  | omap (h : Nat) : Own n Lc h → VR n Lc m0 m1 (.omap h) (.map (some (Lc h).blk))

theorem FR.mono {m0 m1 m0' m1' : Mem} (h0 : m0.le m0') (h1 : m1.le m1') {c : Bool} {v : V} {x : Value} (h : FR m0 m1 c v x) : FR m0' m1' c v x := by
  have hm : ∀ b : Bool, Mem.le (if b then m1 else m0) (if b then m1' else m0') := fun b => by cases b <;> assumption
  induction h with
  | lit c v => exact .lit c v
  | zsl c A => exact .zsl c A
  | agg c l arr hl _ ih => exact .agg c l arr hl ih
  | tup c l arr hl _ ih => exact .tup c l arr hl ih
  | fsl c b l len cap A B o vs hb hc hA hr _ ih => exact .fsl c b l len cap A B o vs hb hc hA (fun j hj => ⟨rdC_le (hm b) (hr j hj).1, (hr j hj).2⟩) ih
  | fptr c b l off B o vs hb hr _ ih => exact .fptr c b l off B o vs hb (fun j hj => ⟨rdC_le (hm b) (hr j hj).1, (hr j hj).2⟩) ih
theorem FR.taint {m0 m1 : Mem} {v : V} {x : Value} (h : FR m0 m1 false v x) : FR m0 m1 true v x := by
  generalize hc : false = c at h
  induction h with
  | lit c v => exact .lit _ v
  | zsl c A => exact .zsl _ A
  | agg c l arr hl _ ih => exact .agg _ l arr hl fun j h h' => ih j h h' hc
  | tup c l arr hl _ ih => exact .tup _ l arr hl fun j h h' => ih j h h' hc
  | fsl c b l len cap A B o vs hb hcap hA hr hv _ => exact .fsl _ b l len cap A B o vs (fun _ => rfl) hcap hA hr hv
  | fptr c b l off B o vs hb hr hv _ => exact .fptr _ b l off B o vs (fun _ => rfl) hr hv

theorem VR.mono {n n' : Nat} {Lc Lc' : Nat → Loc} {m0 m1 m0' m1' : Mem} (hn : n ≤ n') (hL : ∀ h, Own n Lc h → Lc' h = Lc h) (h0 : m0.le m0') (h1 : m1.le m1') {v : V} {x : Value} (h : VR n Lc m0 m1 v x) : VR n' Lc' m0' m1' v x := by
  induction h with
  | fr h => exact .fr (h.mono h0 h1)
  | agg l arr hl _ ih => exact .agg l arr hl ih
  | tup l arr hl _ ih => exact .tup l arr hl ih
  | osl h off len cap hh hc ho => have e := hL h hh; rw [← e] at ho ⊢; exact .osl h off len cap (hh.mono hn e) hc ho
  | optr h off hh => have e := hL h hh; rw [← e]; exact .optr h off (hh.mono hn e)
  | clo f l arr hl _ ih => exact .clo f l arr hl ih
  | omap h hh => have e := hL h hh; rw [← e]; exact .omap h (hh.mono hn e)

section
variable {n : Nat} {Lc : Nat → Loc} {m0 m1 : Mem} {x : Value}
theorem VR.lit_ {v : Value} : VR n Lc m0 m1 (.lit v) v := .fr (.lit _ _)
theorem VR.lit_inv {v : Value} (h : VR n Lc m0 m1 (.lit v) x) : x = v := by
  cases h with
  | fr h => cases h; rfl
theorem VR.agg_inv {l : List V} (h : VR n Lc m0 m1 (.agg l) x) : ∃ arr : Array Value, x = .agg arr ∧ l.length = arr.size ∧ ∀ j (h : j < l.length) (h' : j < arr.size), VR n Lc m0 m1 l[j] arr[j] := by
  cases h with
  | fr h => cases h with
    | agg _ _ arr hl hv => exact ⟨arr, rfl, hl, fun j h h' => .fr (hv j h h')⟩
  | agg _ arr hl hv => exact ⟨arr, rfl, hl, hv⟩
theorem VR.tup_inv {l : List V} (h : VR n Lc m0 m1 (.tup l) x) : ∃ arr : Array Value, x = .tuple arr ∧ l.length = arr.size ∧ ∀ j (h : j < l.length) (h' : j < arr.size), VR n Lc m0 m1 l[j] arr[j] := by
  cases h with
  | fr h => cases h with
    | tup _ _ arr hl hv => exact ⟨arr, rfl, hl, fun j h h' => .fr (hv j h h')⟩
  | tup _ arr hl hv => exact ⟨arr, rfl, hl, hv⟩
theorem VR.zsl_inv (h : VR n Lc m0 m1 .zsl x) : ∃ A, x = .slice A 0 0 := by
  cases h with
  | fr h => cases h; exact ⟨_, rfl⟩
theorem VR.osl_inv {h o len : Nat} (hv : VR n Lc m0 m1 (.osl h o len) x) : ∃ cap, x = .slice (some ⟨(Lc h).blk, o, none⟩) len cap ∧ Own n Lc h ∧ len ≤ cap ∧ o + cap * (Lc h).sz = (Lc h).cap * (Lc h).sz := by
  cases hv with
  | fr h => cases h
  | osl _ _ _ cap hn hc ho => exact ⟨cap, rfl, hn, hc, ho⟩
theorem VR.optr_inv {h o : Nat} (hv : VR n Lc m0 m1 (.optr h o) x) : x = .pointer (some ⟨(Lc h).blk, o, none⟩) ∧ Own n Lc h := by
  cases hv with
  | fr h => cases h
  | optr _ _ hn => exact ⟨rfl, hn⟩
theorem VR.omap_inv {h : Nat} (hv : VR n Lc m0 m1 (.omap h) x) : x = .map (some (Lc h).blk) ∧ Own n Lc h := by
  cases hv with
  | fr h => cases h
  | omap _ hn => exact ⟨rfl, hn⟩
theorem VR.clo_inv {f : FuncId} {l : List V} (hv : VR n Lc m0 m1 (.clo f l) x) : ∃ arr : Array Value, x = .func (.func f) #[] arr ∧ l.length = arr.size ∧ ∀ j (h : j < l.length) (h' : j < arr.size), VR n Lc m0 m1 l[j] arr[j] := by
  cases hv with
  | fr h => cases h
  | clo _ _ arr hl hv => exact ⟨arr, rfl, hl, hv⟩
theorem VR.fsl_inv {b : Bool} {l : List V} {len : Nat} (h : VR n Lc m0 m1 (.fsl b l len) x) : ∃ (A : Option Addr) (cap B o : Nat) (vs : Nat → Value), x = .slice A len cap ∧ len ≤ cap ∧ (l ≠ [] → A = some ⟨B, o, none⟩) ∧
    (∀ j, j < l.length → rdC (if b then m1 else m0) B (o + j) = some (vs j) ∧ (vs j).oneCell' = true) ∧ ∀ j (h : j < l.length), FR m0 m1 b l[j] (vs j) := by
  cases h with
  | fr h => cases h with
    | fsl _ _ _ _ cap A B o vs hb hc hA hr hv => exact ⟨A, cap, B, o, vs, rfl, hc, hA, hr, hv⟩
theorem VR.fptr_inv {b : Bool} {l : List V} {off : Nat} (h : VR n Lc m0 m1 (.fptr b l off) x) : ∃ (B o : Nat) (vs : Nat → Value), x = .pointer (some ⟨B, o + off, none⟩) ∧
    (∀ j, j < l.length → rdC (if b then m1 else m0) B (o + j) = some (vs j) ∧ (vs j).oneCell' = true) ∧ ∀ j (h : j < l.length), FR m0 m1 b l[j] (vs j) := by
  cases h with
  | fr h => cases h with
    | fptr _ _ _ _ B o vs hb hr hv => exact ⟨B, o, vs, rfl, hr, hv⟩
theorem FR.up {b : Bool} {v : V} (h : FR m0 m1 b v x) : VR n Lc m0 m1 v x := by
  cases b
  · exact .fr h.taint
  · exact .fr h
/-- A value that one cell holds. -/
theorem VR.one {v : V} (h : VR n Lc m0 m1 v x) (hl : v.leaf = true) : x.oneCell' = true := by
  cases h with
  | fr h => cases h with
    | lit _ => cases x <;> first | rfl | cases hl
    | agg => cases hl
    | tup => cases hl
    | zsl | fsl | fptr => rfl
  | agg => cases hl
  | tup => cases hl
  | osl | optr | clo | omap => rfl
/-- A value's cells. -/
theorem VR.cells_ {v : V} (h : VR n Lc m0 m1 v x) : v.cells.length = x.cells.size ∧ ∀ j (h : j < v.cells.length) (h' : j < x.cells.size), VR n Lc m0 m1 v.cells[j] x.cells[j] := by
  have single : ∀ {v : V} {x : Value}, VR n Lc m0 m1 v x → v.cells = [v] → x.cells = #[x] → v.cells.length = x.cells.size ∧ ∀ j (h : j < v.cells.length) (h' : j < x.cells.size), VR n Lc m0 m1 v.cells[j] x.cells[j] := by
    intro v x h e1 e2
    refine ⟨by rw [e1, e2]; rfl, fun j h1 h2 => ?_⟩
    have hj : j = 0 := by rw [e1] at h1; simp at h1; omega
    subst hj
    simp only [e1, e2]
    exact h
  cases h with
  | fr h => cases h with
    | lit _ =>
      by_cases ha : ∃ cs, x = .agg cs
      · obtain ⟨cs, rfl⟩ := ha
        refine ⟨by simp [V.cells, Value.cells], fun j h1 h2 => ?_⟩
        simp only [V.cells, Value.cells, List.getElem_map, Array.getElem_toList]
        exact .lit_
      · exact single .lit_ (by cases x <;> first | rfl | exact absurd ⟨_, rfl⟩ ha) (by cases x <;> first | rfl | exact absurd ⟨_, rfl⟩ ha)
    | agg _ l arr hl hv => exact ⟨hl, fun j h h' => .fr (hv j h h')⟩
    | tup _ l arr hl hv => exact single (.fr (.tup _ l arr hl hv)) rfl rfl
    | zsl c A => exact single (.fr (.zsl _ A)) rfl rfl
    | fsl _ b l len cap A B o vs hb hc hA hr hv => exact single (.fr (.fsl _ b l len cap A B o vs hb hc hA hr hv)) rfl rfl
    | fptr _ b l off B o vs hb hr hv => exact single (.fr (.fptr _ b l off B o vs hb hr hv)) rfl rfl
  | agg l arr hl hv => exact ⟨hl, hv⟩
  | tup l arr hl hv => exact single (.tup l arr hl hv) rfl rfl
  | osl h o len cap hn hc ho => exact single (.osl h o len cap hn hc ho) rfl rfl
  | optr h o hn => exact single (.optr h o hn) rfl rfl
  | clo f l arr hl hv => exact single (.clo f l arr hl hv) rfl rfl
  | omap h hn => exact single (.omap h hn) rfl rfl
end
end Go.Proofs.Vm
/-! How the abstract machine's objects stand to the world, and what a step does to it. -/
namespace Go.Proofs.Vm
open Go

/-- An object that can be reached. -/
def Liv : Option O → Prop
  | some (.cells _ _ _) | some (.map _ _) => True
  | _ => False

def keyVal (n : Nat) (k : List Int) : Value := if n = 0 then .int .i64 (k.headD 0) else .agg (k.map fun a => Value.int .i64 a).toArray
/-- A map's entries. -/
def MapAt (n : Nat) (es : List (List Int × Bool)) (x : Option Obj) : Prop :=
  ∃ (arr : Array MapEntry) (c : Nat), x = some (.map arr c) ∧ arr.toList.map (fun e => (e.key, e.val)) = es.map (fun p => (keyVal n p.1, Value.bool p.2)) ∧ ∀ p ∈ es, p.1.length = if n = 0 then 1 else n

structure MemR (n : Nat) (Lc : Nat → Loc) (m0 m1 : Mem) (H : List O) (w : World) : Prop where
  len : H.length = n
  own : ∀ h l t z, H[h]? = some (.cells l t z) → (Lc h).sz = z ∧ (Lc h).cap ≤ maxLen ∧ ∃ arr : Array Value, w.heap[(Lc h).blk]? = some (.cells arr t (0, 0)) ∧ arr.size = (Lc h).cap * z ∧ l.length ≤ arr.size ∧
    ∀ j (hj : j < l.length) (hj' : j < arr.size), arr[j].oneCell' = true ∧ VR n Lc m0 m1 l[j] arr[j]
  map : ∀ h es c, H[h]? = some (.map es c) → MapAt es c w.heap[(Lc h).blk]?
  live : ∀ h, Liv H[h]? → Own n Lc h
  hole : ∀ h, H[h]? = some .hole → (Lc h).sz = 0
  inj : ∀ h h', Liv H[h]? → Liv H[h']? → (Lc h).blk = (Lc h').blk → h = h'
  apart : ∀ h, Own n Lc h → m1 (Lc h).blk = none ∧ (Lc h).blk < w.heap.size
  sub : m0.le m1
  frn : ∀ b o, m1 b = some o → w.heap[b]? = some o

/-- A step of the call at hand: what is neither an object of it nor new is as it was. -/
structure Stp (n : Nat) (Lc : Nat → Loc) (w : World) (n' : Nat) (Lc' : Nat → Loc) (w' : World) : Prop where
  os : w'.os = w.os
  tape : w'.tape = w.tape
  output : w'.output = w.output
  size : w.heap.size ≤ w'.heap.size
  le : n ≤ n'
  same : ∀ h, Own n Lc h → Lc' h = Lc h
  keep : ∀ b, b < w.heap.size → (∀ h, Own n Lc h → (Lc h).blk ≠ b) → w'.heap[b]? = w.heap[b]?
  new : ∀ h, Own n' Lc' h → Own n Lc h ∨ w.heap.size ≤ (Lc' h).blk ∨ ∃ h0, Own n Lc h0 ∧ (Lc h0).blk = (Lc' h).blk

theorem Stp.refl (n : Nat) (Lc : Nat → Loc) (w : World) : Stp n Lc w n Lc w :=
  ⟨rfl, rfl, rfl, Nat.le_refl _, Nat.le_refl _, fun _ _ => rfl, fun _ _ _ => rfl, fun h h1 => .inl h1⟩
theorem Stp.trans {n n1 n2 : Nat} {Lc L1 L2 : Nat → Loc} {w w1 w2 : World} (a : Stp n Lc w n1 L1 w1) (b : Stp n1 L1 w1 n2 L2 w2) : Stp n Lc w n2 L2 w2 where
  os := b.os.trans a.os
  tape := b.tape.trans a.tape
  output := b.output.trans a.output
  size := Nat.le_trans a.size b.size
  le := Nat.le_trans a.le b.le
  same h hh := (b.same h (hh.mono a.le (a.same h hh))).trans (a.same h hh)
  keep k hk hne := by
    rw [b.keep k (Nat.lt_of_lt_of_le hk a.size) fun h hh e => ?_, a.keep k hk hne]
    rcases a.new h hh with h1 | h1 | ⟨h0, h3, h4⟩
    · rw [a.same h h1] at e; exact hne h h1 e
    · omega
    · exact hne h0 h3 (h4.trans e)
  new h h2 := by
    rcases b.new h h2 with h3 | h3 | ⟨h0, h4, h5⟩
    · rw [b.same h h3]; exact a.new h h3
    · exact .inr (.inl (Nat.le_trans a.size h3))
    · rcases a.new h0 h4 with h6 | h6 | ⟨h7, h8, h9⟩
      · rw [a.same h0 h6] at h5; exact .inr (.inr ⟨h0, h6, h5⟩)
      · exact .inr (.inl (by rw [← h5]; exact h6))
      · exact .inr (.inr ⟨h7, h8, h9.trans h5⟩)
theorem Stp.drew (n : Nat) (Lc : Nat → Loc) (w : World) : Stp n Lc w n Lc { w with drawn := w.drawn + 1 } :=
  ⟨rfl, rfl, rfl, Nat.le_refl _, Nat.le_refl _, fun _ _ => rfl, fun _ _ _ => rfl, fun h h1 => .inl h1⟩

section
variable {n : Nat} {Lc : Nat → Loc} {m0 m1 : Mem} {H : List O} {w : World}

theorem MemR.drew (hm : MemR n Lc m0 m1 H w) : MemR n Lc m0 m1 H { w with drawn := w.drawn + 1 } := ⟨hm.len, hm.own, hm.map, hm.live, hm.hole, hm.inj, hm.apart, hm.sub, hm.frn⟩

def addL (Lc : Nat → Loc) (n : Nat) (l : Loc) (h : Nat) : Loc := if h = n then l else Lc h

/-- An object in a place that no object had, in a block of its own or in that of one that is dead from now on (number d). The heap of the abstract machine is given by what it holds. -/
theorem MemR.put (hm : MemR n Lc m0 m1 H w) {w' : World} {H' : List O} {p g cap n' : Nat} {l' : List V} {t z : Nat} {arr' : Array Value} {dd : Nat → Prop} (hn : n ≤ n') (hpn : p < n') (hlen : H'.length = n')
    (hp : ¬ Own n Lc p) (hat' : H'[p]? = some (.cells l' t z)) (hothH : ∀ k, k ≠ p → ¬ dd k → k < n → H'[k]? = H[k]?) (hddH : ∀ k, dd k → H'[k]? = some .dead) (hbig : ∀ k, n ≤ k → k < n' → k = p)
    (hdd : ∀ k, dd k → ∃ l t z, H[k]? = some (.cells l t z)) (hg : (∃ k, dd k ∧ g = (Lc k).blk) ∨ w.heap.size ≤ g)
    (hos : w'.os = w.os) (htp : w'.tape = w.tape) (hou : w'.output = w.output) (hsz : w.heap.size ≤ w'.heap.size)
    (hat : w'.heap[g]? = some (.cells arr' t (0, 0))) (hoth : ∀ b, b < w.heap.size → (∀ k, dd k → b ≠ (Lc k).blk) → w'.heap[b]? = w.heap[b]?)
    (hz : 0 < z) (ha : arr'.size = cap * z) (hc : cap ≤ maxLen) (hl : l'.length ≤ arr'.size) (hv : ∀ j (hj : j < l'.length) (hj' : j < arr'.size), arr'[j].oneCell' = true ∧ VR n Lc m0 m1 l'[j] arr'[j]) :
    MemR n' (addL Lc p ⟨g, z, cap⟩) m0 m1 H' w' ∧ Stp n Lc w n' (addL Lc p ⟨g, z, cap⟩) w' := by
  have hL : ∀ k, k ≠ p → addL Lc p ⟨g, z, cap⟩ k = Lc k := fun k hk => if_neg hk
  have hLo : ∀ k, Own n Lc k → addL Lc p ⟨g, z, cap⟩ k = Lc k := fun k hk => hL k fun e => hp (e ▸ hk)
  have hLp : addL Lc p ⟨g, z, cap⟩ p = ⟨g, z, cap⟩ := if_pos rfl
  have hglt : g < w'.heap.size := (Array.getElem?_eq_some_iff.1 hat).1
  have vr : ∀ {v : V} {x : Value}, VR n Lc m0 m1 v x → VR n' (addL Lc p ⟨g, z, cap⟩) m0 m1 v x := fun h => h.mono hn hLo (fun _ _ e => e) (fun _ _ e => e)
  have hown : Own n' (addL Lc p ⟨g, z, cap⟩) p := ⟨hpn, by rw [hLp]; exact hz⟩
  have hddo : ∀ k, dd k → Own n Lc k := fun k hk => by obtain ⟨l, t, z, e⟩ := hdd k hk; exact hm.live k (by rw [e]; trivial)
  have hlt' : ∀ (k : Nat) (x : O), H'[k]? = some x → k < n' := fun k x hx => by rw [← hlen]; exact (List.getElem?_eq_some_iff.1 hx).1
  -- an object of the new heap: the new one, or an old one that lives on
  have cases' : ∀ (k : Nat) (x : O), H'[k]? = some x → k = p ∨ k ≠ p ∧ dd k ∧ x = .dead ∨ k ≠ p ∧ ¬ dd k ∧ H[k]? = some x := fun k x hx => by
    by_cases e : k = p
    · exact .inl e
    · right
      by_cases hd : dd k
      · left; refine ⟨e, hd, ?_⟩; rw [hddH k hd] at hx; exact (Option.some.inj hx).symm
      · right
        refine ⟨e, hd, ?_⟩
        have : k < n := by
          rcases Nat.lt_or_ge k n with h | h
          · exact h
          · exact absurd (hbig k h (hlt' k x hx)) e
        rw [← hothH k e hd this]; exact hx
  have hne : ∀ k, Liv H[k]? → ¬ dd k → ∀ k', dd k' → (Lc k).blk ≠ (Lc k').blk := fun k hk hd k' hk' e => by
    obtain ⟨l, t, z, e'⟩ := hdd k' hk'
    have := hm.inj k k' hk (by rw [e']; trivial) e
    exact hd (this ▸ hk')
  have keepk : ∀ k, Liv H[k]? → ¬ dd k → w'.heap[(Lc k).blk]? = w.heap[(Lc k).blk]? := fun k hk hd => hoth _ (hm.apart k (hm.live k hk)).2 (hne k hk hd)
  have gne : ∀ k, Liv H[k]? → ¬ dd k → (Lc k).blk ≠ g := fun k hk hd e => by
    rcases hg with ⟨k', h1, h2⟩ | h1
    · exact hne k hk hd k' h1 (e.trans h2)
    · have := (hm.apart k (hm.live k hk)).2; omega
  refine ⟨⟨hlen, ?_, ?_, ?_, ?_, ?_, ?_, hm.sub, ?_⟩, ⟨hos, htp, hou, hsz, hn, hLo, fun b hb hk => hoth b hb fun k hd e => hk k (hddo k hd) e.symm, fun k hk => ?_⟩⟩
  · intro k l1 t1 z1 hk
    rcases cases' k _ hk with e | ⟨_, _, e⟩ | ⟨e, hd, hk'⟩
    · subst e
      rw [hat'] at hk
      cases hk
      rw [hLp]
      exact ⟨rfl, hc, arr', hat, ha, hl, fun j hj hj' => ⟨(hv j hj hj').1, vr (hv j hj hj').2⟩⟩
    · cases e
    · rw [hL k e]
      obtain ⟨e1, e2, arr1, e3, e4, e5, e6⟩ := hm.own k l1 t1 z1 hk'
      exact ⟨e1, e2, arr1, by rw [keepk k (by rw [hk']; trivial) hd]; exact e3, e4, e5, fun j hj hj' => ⟨(e6 j hj hj').1, vr (e6 j hj hj').2⟩⟩
  · intro k es c hk
    rcases cases' k _ hk with e | ⟨_, _, e⟩ | ⟨e, hd, hk'⟩
    · subst e; rw [hat'] at hk; cases hk
    · cases e
    · rw [hL k e, keepk k (by rw [hk']; trivial) hd]; exact hm.map k es c hk'
  · intro k hk
    cases hx : H'[k]? with
    | none => rw [hx] at hk; exact hk.elim
    | some x =>
      rcases cases' k _ hx with e | ⟨_, _, e⟩ | ⟨e, hd, hk'⟩
      · subst e; exact hown
      · subst e; rw [hx] at hk; exact hk.elim
      · rw [hx, ← hk'] at hk
        exact (hm.live k hk).mono hn (hL k e)
  · intro k hk
    rcases cases' k _ hk with e | ⟨_, _, e⟩ | ⟨e, hd, hk'⟩
    · subst e; rw [hat'] at hk; cases hk
    · cases e
    · rw [hL k e]; exact hm.hole k hk'
  · intro a b h3 h4 e
    have old : ∀ k, Liv H'[k]? → k ≠ p → ¬ dd k ∧ Liv H[k]? := fun k hk hkp => by
      cases hx : H'[k]? with
      | none => rw [hx] at hk; exact hk.elim
      | some x =>
        rcases cases' k _ hx with e | ⟨_, _, e⟩ | ⟨e, hd, hk'⟩
        · exact absurd e hkp
        · subst e; rw [hx] at hk; exact hk.elim
        · rw [hx, ← hk'] at hk; exact ⟨hd, hk⟩
    by_cases ea : a = p <;> by_cases eb : b = p
    · rw [ea, eb]
    · subst ea
      obtain ⟨q1, q2⟩ := old b h4 eb
      rw [hLp, hL b eb] at e
      exact absurd e.symm (gne b q2 q1)
    · subst eb
      obtain ⟨q1, q2⟩ := old a h3 ea
      rw [hLp, hL a ea] at e
      exact absurd e (gne a q2 q1)
    · rw [hL a ea, hL b eb] at e
      exact hm.inj a b (old a h3 ea).2 (old b h4 eb).2 e
  · intro k hk
    by_cases e : k = p
    · subst e
      rw [hLp]
      refine ⟨?_, hglt⟩
      rcases hg with ⟨k', h1, h2⟩ | h1
      · simp only; rw [h2]; exact (hm.apart k' (hddo k' h1)).1
      · cases hb : m1 g with
        | none => rfl
        | some o => have := hm.frn _ _ hb; rw [Array.getElem?_eq_none h1] at this; cases this
    · have hk' : Own n Lc k := by
        obtain ⟨q1, q2⟩ := hk
        rw [hL k e] at q2
        refine ⟨?_, q2⟩
        rcases Nat.lt_or_ge k n with h | h
        · exact h
        · exact absurd (hbig k h q1) e
      rw [hL k e]
      exact ⟨(hm.apart k hk').1, Nat.lt_of_lt_of_le (hm.apart k hk').2 hsz⟩
  · intro b o hb
    have h1 := hm.frn b o hb
    rw [hoth b (by
      rcases Nat.lt_or_ge b w.heap.size with h | h
      · exact h
      · rw [Array.getElem?_eq_none h] at h1; cases h1) fun k hd e => by rw [e, (hm.apart k (hddo k hd)).1] at hb; cases hb]
    exact h1
  · by_cases e : k = p
    · subst e
      rw [hLp]
      rcases hg with ⟨k', h1, h2⟩ | h1
      · exact .inr (.inr ⟨k', hddo k' h1, h2.symm⟩)
      · exact .inr (.inl h1)
    · left
      obtain ⟨q1, q2⟩ := hk
      rw [hL k e] at q2
      refine ⟨?_, q2⟩
      rcases Nat.lt_or_ge k n with h | h
      · exact h
      · exact absurd (hbig k h q1) e

/-- A new block. -/
theorem MemR.alloc (hm : MemR n Lc m0 m1 H w) {l : List V} {arr : Array Value} {t z cap : Nat} (h0 : 0 < z) (hz : arr.size = cap * z) (hc : cap ≤ maxLen) (hl : l.length ≤ arr.size)
    (hv : ∀ j (hj : j < l.length) (hj' : j < arr.size), arr[j].oneCell' = true ∧ VR n Lc m0 m1 l[j] arr[j]) :
    MemR (n + 1) (addL Lc n ⟨w.heap.size, z, cap⟩) m0 m1 (H ++ [.cells l t z]) (w.alloc (.cells arr t)) ∧ Stp n Lc w (n + 1) (addL Lc n ⟨w.heap.size, z, cap⟩) (w.alloc (.cells arr t)) :=
  hm.put (p := n) (g := w.heap.size) (dd := fun _ => False) (t := t) (z := z) (cap := cap) (n' := n + 1) (by omega) (by omega) (by simp [hm.len]) (fun h => by have := h.1; omega) (by rw [← hm.len]; simp)
    (fun k _ _ hk => List.getElem?_append_left (by rw [hm.len]; exact hk)) (fun _ h => h.elim) (fun k h1 h2 => by omega) (fun _ h => h.elim) (.inr (Nat.le_refl _)) rfl rfl rfl (by simp) (heap_alloc_new w _)
    (fun b hb _ => heap_alloc_old w _ b hb) h0 hz hc hl hv

/-- A kept number gets its object. -/
theorem MemR.fill (hm : MemR n Lc m0 m1 H w) {p : Nat} (hp : H[p]? = some .hole) {l : List V} {arr : Array Value} {t z cap : Nat} (h0 : 0 < z) (hz : arr.size = cap * z) (hc : cap ≤ maxLen) (hl : l.length ≤ arr.size)
    (hv : ∀ j (hj : j < l.length) (hj' : j < arr.size), arr[j].oneCell' = true ∧ VR n Lc m0 m1 l[j] arr[j]) :
    MemR n (addL Lc p ⟨w.heap.size, z, cap⟩) m0 m1 (H.set p (.cells l t z)) (w.alloc (.cells arr t)) ∧ Stp n Lc w n (addL Lc p ⟨w.heap.size, z, cap⟩) (w.alloc (.cells arr t)) := by
  have hlt : p < n := by rw [← hm.len]; exact (List.getElem?_eq_some_iff.1 hp).1
  exact hm.put (p := p) (g := w.heap.size) (dd := fun _ => False) (t := t) (z := z) (cap := cap) (n' := n) (Nat.le_refl _) hlt (by simp [hm.len]) (fun h => by have := h.2; rw [hm.hole p hp] at this; omega)
    (by rw [List.getElem?_set]; simp [hm.len, hlt]) (fun k hk _ _ => by rw [List.getElem?_set, if_neg (fun e => hk e.symm)]) (fun _ h => h.elim) (fun k h1 h2 => by omega) (fun _ h => h.elim) (.inr (Nat.le_refl _)) rfl rfl rfl (by simp) (heap_alloc_new w _)
    (fun b hb _ => heap_alloc_old w _ b hb) h0 hz hc hl hv

/-- Numbers are kept. -/
theorem MemR.keepN (hm : MemR n Lc m0 m1 H w) (k : Nat) : ∃ L', MemR (n + k) L' m0 m1 (H ++ List.replicate k .hole) w ∧ Stp n Lc w (n + k) L' w := by
  let L' : Nat → Loc := fun h => if h < n then Lc h else ⟨0, 0, 0⟩
  have hL : ∀ h, h < n → L' h = Lc h := fun h hh => if_pos hh
  have hown : ∀ h, Own (n + k) L' h → Own n Lc h := fun h hh => by
    rcases Nat.lt_or_ge h n with h1 | h1
    · exact ⟨h1, by rw [← hL h h1]; exact hh.2⟩
    · exfalso
      have : L' h = ⟨0, 0, 0⟩ := if_neg (by omega)
      have h2 := hh.2
      rw [this] at h2
      exact Nat.lt_irrefl _ h2
  have hat : ∀ h x, (H ++ List.replicate k O.hole)[h]? = some x → h < n ∧ H[h]? = some x ∨ n ≤ h ∧ x = .hole := fun h x hx => by
    rcases Nat.lt_or_ge h n with h1 | h1
    · rw [List.getElem?_append_left (by rw [hm.len]; exact h1)] at hx; exact .inl ⟨h1, hx⟩
    · rw [List.getElem?_append_right (by rw [hm.len]; exact h1)] at hx
      right
      refine ⟨h1, ?_⟩
      rw [List.getElem?_replicate] at hx
      split at hx <;> cases hx; rfl
  have liv : ∀ h, Liv (H ++ List.replicate k O.hole)[h]? → h < n ∧ Liv H[h]? := fun h hh => by
    cases hx : (H ++ List.replicate k O.hole)[h]? with
    | none => rw [hx] at hh; exact hh.elim
    | some x =>
      rw [hx] at hh
      rcases hat h x hx with ⟨h1, h2⟩ | ⟨_, rfl⟩
      · exact ⟨h1, by rw [h2]; exact hh⟩
      · exact hh.elim
  have vr : ∀ {v : V} {x : Value}, VR n Lc m0 m1 v x → VR (n + k) L' m0 m1 v x := fun h => h.mono (by omega) (fun h hh => hL h hh.1) (fun _ _ e => e) (fun _ _ e => e)
  refine ⟨L', ⟨by simp [hm.len], ?_, ?_, ?_, ?_, ?_, ?_, hm.sub, hm.frn⟩, ⟨rfl, rfl, rfl, Nat.le_refl _, by omega, fun h hh => hL h hh.1, fun _ _ _ => rfl, fun h hh => .inl (hown h hh)⟩⟩
  · intro h l t z hx
    rcases hat h _ hx with ⟨h1, h2⟩ | ⟨_, e⟩
    · rw [hL h h1]
      obtain ⟨e1, e2, arr1, e3, e4, e5, e6⟩ := hm.own h l t z h2
      exact ⟨e1, e2, arr1, e3, e4, e5, fun j hj hj' => ⟨(e6 j hj hj').1, vr (e6 j hj hj').2⟩⟩
    · cases e
  · intro h es c hx
    rcases hat h _ hx with ⟨h1, h2⟩ | ⟨_, e⟩
    · rw [hL h h1]; exact hm.map h es c h2
    · cases e
  · intro h hh
    obtain ⟨h1, h2⟩ := liv h hh
    exact (hm.live h h2).mono (by omega) (hL h h1)
  · intro h hx
    rcases hat h _ hx with ⟨h1, h2⟩ | ⟨h1, _⟩
    · rw [hL h h1]; exact hm.hole h h2
    · have : L' h = ⟨0, 0, 0⟩ := if_neg (by omega)
      rw [this]
  · intro a b h1 h2 e
    obtain ⟨a1, a2⟩ := liv a h1
    obtain ⟨b1, b2⟩ := liv b h2
    rw [hL a a1, hL b b1] at e
    exact hm.inj a b a2 b2 e
  · intro h hh
    have := hown h hh
    rw [hL h this.1]; exact hm.apart h this

/-- An object's cells written anew. -/
theorem MemR.store (hm : MemR n Lc m0 m1 H w) {w' : World} {h : Nat} {l l' : List V} {t z : Nat} {arr' : Array Value} (hh : H[h]? = some (.cells l t z))
    (hos : w'.os = w.os) (htp : w'.tape = w.tape) (hou : w'.output = w.output) (hsz : w'.heap.size = w.heap.size)
    (hat : w'.heap[(Lc h).blk]? = some (.cells arr' t (0, 0))) (hoth : ∀ b, b ≠ (Lc h).blk → w'.heap[b]? = w.heap[b]?)
    (ha : arr'.size = (Lc h).cap * z) (hl : l'.length ≤ arr'.size) (hv : ∀ j (hj : j < l'.length) (hj' : j < arr'.size), arr'[j].oneCell' = true ∧ VR n Lc m0 m1 l'[j] arr'[j]) :
    MemR n Lc m0 m1 (H.set h (.cells l' t z)) w' ∧ Stp n Lc w n Lc w' := by
  have hlt : h < n := by rw [← hm.len]; exact (List.getElem?_eq_some_iff.1 hh).1
  have hlivh : Liv H[h]? := by rw [hh]; trivial
  have hownh := hm.live h hlivh
  have hs1 : (H.set h (.cells l' t z))[h]? = some (.cells l' t z) := by rw [List.getElem?_set]; simp [hm.len, hlt]
  have hs2 : ∀ k, k ≠ h → (H.set h (.cells l' t z))[k]? = H[k]? := fun k hk => by rw [List.getElem?_set, if_neg (fun e => hk e.symm)]
  have liv : ∀ k, Liv (H.set h (.cells l' t z))[k]? → Liv H[k]? := fun k hk => by
    by_cases e : k = h
    · subst e; exact hlivh
    · rwa [hs2 k e] at hk
  have hne : ∀ k, Liv H[k]? → k ≠ h → (Lc k).blk ≠ (Lc h).blk := fun k hx hk e => hk (hm.inj k h hx hlivh e)
  refine ⟨⟨by simp [hm.len], ?_, ?_, ?_, ?_, ?_, ?_, hm.sub, ?_⟩, ⟨hos, htp, hou, by omega, Nat.le_refl _, fun _ _ => rfl, fun b _ hb => hoth b (fun e => hb h hownh e.symm), fun k h1 => .inl h1⟩⟩
  · intro k l1 t1 z1 hk
    by_cases e : k = h
    · subst e
      rw [hs1] at hk
      cases hk
      obtain ⟨e1, e2, _⟩ := hm.own k l t z hh
      exact ⟨e1, e2, arr', hat, ha, hl, hv⟩
    · rw [hs2 k e] at hk
      obtain ⟨e1, e2, arr1, e3, e4⟩ := hm.own k l1 t1 z1 hk
      exact ⟨e1, e2, arr1, by rw [hoth _ (hne k (by rw [hk]; trivial) e)]; exact e3, e4⟩
  · intro k es c hk
    by_cases e : k = h
    · subst e; rw [hs1] at hk; cases hk
    · rw [hs2 k e] at hk; rw [hoth _ (hne k (by rw [hk]; trivial) e)]; exact hm.map k es c hk
  · exact fun k hk => hm.live k (liv k hk)
  · intro k hk
    by_cases e : k = h
    · subst e; rw [hs1] at hk; cases hk
    · rw [hs2 k e] at hk; exact hm.hole k hk
  · exact fun a b h3 h4 e => hm.inj a b (liv a h3) (liv b h4) e
  · exact fun k hk => ⟨(hm.apart k hk).1, by rw [hsz]; exact (hm.apart k hk).2⟩
  · intro b o hb
    rw [hoth b fun e => by rw [e, (hm.apart h hownh).1] at hb; cases hb]
    exact hm.frn b o hb

/-- A new map. -/
theorem MemR.allocMap (hm : MemR n Lc m0 m1 H w) (k : Nat) :
    MemR (n + 1) (addL Lc n ⟨w.heap.size, 1, 0⟩) m0 m1 (H ++ [.map k []]) (w.alloc (.map #[] 0)) ∧ Stp n Lc w (n + 1) (addL Lc n ⟨w.heap.size, 1, 0⟩) (w.alloc (.map #[] 0)) := by
  have hL : ∀ h, h ≠ n → addL Lc n ⟨w.heap.size, 1, 0⟩ h = Lc h := fun h hh => if_neg hh
  have hLn : addL Lc n ⟨w.heap.size, 1, 0⟩ n = ⟨w.heap.size, 1, 0⟩ := if_pos rfl
  have hsz : (w.alloc (.map #[] 0)).heap.size = w.heap.size + 1 := by simp
  have hat : ∀ h x, (H ++ [O.map k []])[h]? = some x → h < n ∧ H[h]? = some x ∨ h = n ∧ x = .map k [] := fun h x hx => by
    rcases Nat.lt_or_ge h n with h1 | h1
    · rw [List.getElem?_append_left (by rw [hm.len]; exact h1)] at hx; exact .inl ⟨h1, hx⟩
    · rw [List.getElem?_append_right (by rw [hm.len]; exact h1), hm.len] at hx
      right
      have h2 : h = n := by
        have := (List.getElem?_eq_some_iff.1 hx).1
        simp at this; omega
      subst h2
      simp at hx
      exact ⟨rfl, hx.symm⟩
  have old : ∀ h, Liv H[h]? → h ≠ n ∧ h < n := fun h hh => by have := (hm.live h hh).1; omega
  have keep : ∀ b, b < w.heap.size → (w.alloc (.map #[] 0)).heap[b]? = w.heap[b]? := fun b hb => heap_alloc_old w _ b hb
  have hownO : ∀ h, Own (n + 1) (addL Lc n ⟨w.heap.size, 1, 0⟩) h → h = n ∨ h ≠ n ∧ Own n Lc h := fun h hh => by
    by_cases e : h = n
    · exact .inl e
    · refine .inr ⟨e, ?_, ?_⟩
      · have := hh.1; omega
      · have := hh.2; rw [hL h e] at this; exact this
  have vr : ∀ {v : V} {x : Value}, VR n Lc m0 m1 v x → VR (n + 1) (addL Lc n ⟨w.heap.size, 1, 0⟩) m0 m1 v x := fun h => h.mono (by omega) (fun h hh => hL h (by have := hh.1; omega)) (fun _ _ e => e) (fun _ _ e => e)
  have liv : ∀ h, Liv (H ++ [O.map k []])[h]? → h = n ∨ h ≠ n ∧ Liv H[h]? := fun h hh => by
    cases hx : (H ++ [O.map k []])[h]? with
    | none => rw [hx] at hh; exact hh.elim
    | some x =>
      rw [hx] at hh
      rcases hat h x hx with ⟨h1, h2⟩ | ⟨e, _⟩
      · exact .inr ⟨by omega, by rw [h2]; exact hh⟩
      · exact .inl e
  refine ⟨⟨by simp [hm.len], ?_, ?_, ?_, ?_, ?_, ?_, hm.sub, ?_⟩, ⟨rfl, rfl, rfl, by omega, by omega, fun h hh => hL h (by have := hh.1; omega), fun b hb _ => keep b hb, fun h hh => ?_⟩⟩
  · intro h l t z hx
    rcases hat h _ hx with ⟨h1, h2⟩ | ⟨_, e⟩
    · rw [hL h (by omega)]
      obtain ⟨e1, e2, arr1, e3, e4, e5, e6⟩ := hm.own h l t z h2
      exact ⟨e1, e2, arr1, by rw [keep _ (hm.apart h (hm.live h (by rw [h2]; trivial))).2]; exact e3, e4, e5, fun j hj hj' => ⟨(e6 j hj hj').1, vr (e6 j hj hj').2⟩⟩
    · cases e
  · intro h es c hx
    rcases hat h _ hx with ⟨h1, h2⟩ | ⟨e, e2⟩
    · rw [hL h (by omega), keep _ (hm.apart h (hm.live h (by rw [h2]; trivial))).2]; exact hm.map h es c h2
    · cases e2
      subst e
      rw [hLn]
      exact ⟨#[], 0, heap_alloc_new w _, rfl, fun p hp => by simp at hp⟩
  · intro h hh
    rcases liv h hh with e | ⟨e, h1⟩
    · subst e; exact ⟨by omega, by rw [hLn]; simp⟩
    · exact (hm.live h h1).mono (by omega) (hL h e)
  · intro h hx
    rcases hat h _ hx with ⟨h1, h2⟩ | ⟨_, e⟩
    · rw [hL h (by omega)]; exact hm.hole h h2
    · cases e
  · intro a b ha hb e
    rcases liv a ha with ea | ⟨ea, ha'⟩ <;> rcases liv b hb with eb | ⟨eb, hb'⟩
    · rw [ea, eb]
    · subst ea; rw [hLn, hL b eb] at e
      have := (hm.apart b (hm.live b hb')).2; simp only at e; omega
    · subst eb; rw [hLn, hL a ea] at e
      have := (hm.apart a (hm.live a ha')).2; simp only at e; omega
    · rw [hL a ea, hL b eb] at e; exact hm.inj a b ha' hb' e
  · intro h hh
    rcases hownO h hh with e | ⟨e, h1⟩
    · subst e; rw [hLn]
      refine ⟨?_, by simp only [hsz]; omega⟩
      cases hb : m1 w.heap.size with
      | none => rfl
      | some o => have := hm.frn _ _ hb; rw [Array.getElem?_eq_none (Nat.le_refl _)] at this; cases this
    · rw [hL h e]; exact ⟨(hm.apart h h1).1, by have := (hm.apart h h1).2; omega⟩
  · intro b o hb
    have h1 := hm.frn b o hb
    rw [keep b (by
      rcases Nat.lt_or_ge b w.heap.size with h | h
      · exact h
      · rw [Array.getElem?_eq_none h] at h1; cases h1)]
    exact h1
  · rcases hownO h hh with e | ⟨_, h1⟩
    · subst e; exact .inr (.inl (by rw [hLn]; exact Nat.le_refl _))
    · exact .inl h1

/-- A map's entries written anew. -/
theorem MemR.storeMap (hm : MemR n Lc m0 m1 H w) {w' : World} {h k : Nat} {es es' : List (List Int × Bool)} (hh : H[h]? = some (.map k es))
    (hos : w'.os = w.os) (htp : w'.tape = w.tape) (hou : w'.output = w.output) (hsz : w'.heap.size = w.heap.size)
    (hat : MapAt k es' w'.heap[(Lc h).blk]?) (hoth : ∀ b, b ≠ (Lc h).blk → w'.heap[b]? = w.heap[b]?) :
    MemR n Lc m0 m1 (H.set h (.map k es')) w' ∧ Stp n Lc w n Lc w' := by
  have hlt : h < n := by rw [← hm.len]; exact (List.getElem?_eq_some_iff.1 hh).1
  have hlivh : Liv H[h]? := by rw [hh]; trivial
  have hownh := hm.live h hlivh
  have hs1 : (H.set h (.map k es'))[h]? = some (.map k es') := by rw [List.getElem?_set]; simp [hm.len, hlt]
  have hs2 : ∀ j, j ≠ h → (H.set h (.map k es'))[j]? = H[j]? := fun j hk => by rw [List.getElem?_set, if_neg (fun e => hk e.symm)]
  have liv : ∀ j, Liv (H.set h (.map k es'))[j]? → Liv H[j]? := fun j hk => by
    by_cases e : j = h
    · subst e; exact hlivh
    · rwa [hs2 j e] at hk
  have hne : ∀ j, Liv H[j]? → j ≠ h → (Lc j).blk ≠ (Lc h).blk := fun j hx hk e => hk (hm.inj j h hx hlivh e)
  refine ⟨⟨by simp [hm.len], ?_, ?_, ?_, ?_, ?_, ?_, hm.sub, ?_⟩, ⟨hos, htp, hou, by omega, Nat.le_refl _, fun _ _ => rfl, fun b _ hb => hoth b (fun e => hb h hownh e.symm), fun k h1 => .inl h1⟩⟩
  · intro j l1 t1 z1 hk
    by_cases e : j = h
    · subst e; rw [hs1] at hk; cases hk
    · rw [hs2 j e] at hk
      obtain ⟨e1, e2, arr1, e3, e4⟩ := hm.own j l1 t1 z1 hk
      exact ⟨e1, e2, arr1, by rw [hoth _ (hne j (by rw [hk]; trivial) e)]; exact e3, e4⟩
  · intro j q c hk
    by_cases e : j = h
    · subst e; rw [hs1] at hk; cases hk; exact hat
    · rw [hs2 j e] at hk; rw [hoth _ (hne j (by rw [hk]; trivial) e)]; exact hm.map j q c hk
  · exact fun j hk => hm.live j (liv j hk)
  · intro j hk
    by_cases e : j = h
    · subst e; rw [hs1] at hk; cases hk
    · rw [hs2 j e] at hk; exact hm.hole j hk
  · exact fun a b h3 h4 e => hm.inj a b (liv a h3) (liv b h4) e
  · exact fun j hk => ⟨(hm.apart j hk).1, by rw [hsz]; exact (hm.apart j hk).2⟩
  · intro b o hb
    rw [hoth b fun e => by rw [e, (hm.apart h hownh).1] at hb; cases hb]
    exact hm.frn b o hb

/-- An append: the object is dead, and a new one lies in its block or in a new one. -/
theorem MemR.moved (hm : MemR n Lc m0 m1 H w) {w' : World} {h g cap : Nat} {l l' : List V} {t z : Nat} {arr' : Array Value} (hh : H[h]? = some (.cells l t z))
    (hos : w'.os = w.os) (htp : w'.tape = w.tape) (hou : w'.output = w.output) (hsz : w.heap.size ≤ w'.heap.size)
    (hg : g = (Lc h).blk ∨ w.heap.size ≤ g) (hat : w'.heap[g]? = some (.cells arr' t (0, 0))) (hoth : ∀ b, b < w.heap.size → b ≠ (Lc h).blk → w'.heap[b]? = w.heap[b]?)
    (ha : arr'.size = cap * z) (hc : cap ≤ maxLen) (hl : l'.length ≤ arr'.size) (hv : ∀ j (hj : j < l'.length) (hj' : j < arr'.size), arr'[j].oneCell' = true ∧ VR n Lc m0 m1 l'[j] arr'[j]) :
    MemR (n + 1) (addL Lc n ⟨g, z, cap⟩) m0 m1 (H.set h O.dead ++ [.cells l' t z]) w' ∧ Stp n Lc w (n + 1) (addL Lc n ⟨g, z, cap⟩) w' := by
  have hlt : h < n := by rw [← hm.len]; exact (List.getElem?_eq_some_iff.1 hh).1
  have h0 : 0 < z := by
    have := (hm.live h (by rw [hh]; trivial)).2
    rw [(hm.own h l t z hh).1] at this; exact this
  exact hm.put (p := n) (g := g) (dd := fun k => k = h) (t := t) (z := z) (cap := cap) (n' := n + 1) (by omega) (by omega) (by simp [hm.len]) (fun h => by have := h.1; omega) (by rw [List.getElem?_append_right (by simp [hm.len])]; simp [hm.len])
    (fun k _ hk1 hk => by rw [List.getElem?_append_left (by simp [hm.len, hk]), List.getElem?_set, if_neg (fun e => hk1 e.symm)])
    (fun k e => by subst e; rw [List.getElem?_append_left (by simp [hm.len, hlt]), List.getElem?_set]; simp [hm.len, hlt]) (fun k h1 h2 => by omega) (fun k e => by subst e; exact ⟨l, t, z, hh⟩)
    (hg.imp_left fun e => ⟨h, rfl, e⟩) hos htp hou hsz hat (fun b hb hk => hoth b hb (hk h rfl)) h0 ha hc hl hv
end
end Go.Proofs.Vm
/-! Each instruction does what its operation does. -/
namespace Go.Proofs.Vm
open Go

/-- The slots. -/
def SR (n : Nat) (Lc : Nat → Loc) (m0 m1 : Mem) (s : Nat → V) (a : Act) : Prop := ∀ t, VR n Lc m0 m1 (s t) (a.tmps.getD t undef)

theorem VR.ofVal {n : Nat} {Lc : Nat → Loc} {m0 m1 : Mem} (v : Value) : VR n Lc m0 m1 (ofVal v) v := by
  unfold Vm.ofVal
  split
  · rename_i cs
    refine .agg _ _ (by simp) fun j h h' => ?_
    simp only [List.getElem_map, Array.getElem_toList]
    exact .lit_
  · exact .lit_

section
variable {P : Program} {n : Nat} {Lc : Nat → Loc} {m0 m1 : Mem} {H H' : List O} {w : World} {s : Nat → V} {a : Act} {o : Oper} {v : V} {i : Ins}

theorem opd_ok (hs : SR n Lc m0 m1 s a) {x : Operand} {y : Opd} (h : opd x = some y) : VR n Lc m0 m1 (y.ev s) (a.eval x) := by
  cases x <;> simp only [opd, Option.some.injEq, reduceCtorEq] at h
  · subst h; exact hs _
  · subst h; exact .ofVal _
  · subst h; exact .clo _ _ _ rfl fun j h => by simp at h
theorem opds_ok (hs : SR n Lc m0 m1 s a) {xs : Array Operand} {ys : List Opd} (h : opds xs = some ys) : ys.length = xs.size ∧ ∀ j (hj : j < ys.length) (hj' : j < xs.size), VR n Lc m0 m1 (ys[j].ev s) (a.eval xs[j]) := by
  obtain ⟨xs⟩ := xs
  simp only [opds] at h
  induction xs generalizing ys with
  | nil => simp at h; subst h; exact ⟨rfl, fun j h => by simp at h⟩
  | cons x xs ih =>
    simp only [List.mapM_cons, Option.bind_eq_bind, Option.bind_eq_some_iff, Option.pure_def, Option.some.injEq] at h
    obtain ⟨y, hy, ys', hys, rfl⟩ := h
    obtain ⟨h1, h2⟩ := ih hys
    refine ⟨by simp at h1 ⊢; exact h1, fun j hj hj' => ?_⟩
    cases j with
    | zero => exact opd_ok hs hy
    | succ j => exact h2 j (by simpa using hj) (by simpa using hj')

/-- The operation runs, and leaves what the instruction says. -/
def Ok1 (P : Program) (o : Oper) (a : Act) (w : World) (n : Nat) (Lc : Nat → Loc) (m0 m1 : Mem) (v : V) (H' : List O) : Prop :=
  ∃ nx w' n' Lc', (execOp a.eval o).run P w = .ok nx w' ∧ (nx = .skip ∧ v = .none_ ∨ ∃ x, nx = .value x ∧ VR n' Lc' m0 m1 v x) ∧ MemR n' Lc' m0 m1 H' w' ∧ Stp n Lc w n' Lc' w'

theorem Ok1.same (hm : MemR n Lc m0 m1 H w) {x : Value} (hr : (execOp a.eval o).run P w = .ok (.value x) w) (hv : VR n Lc m0 m1 v x) : Ok1 P o a w n Lc m0 m1 v H :=
  ⟨_, w, n, Lc, hr, .inr ⟨x, rfl, hv⟩, hm, Stp.refl n Lc w⟩

theorem ok_move {x : Operand} {y : Opd} (hop : o.op = .move x ∨ o.op = .assign x) (hm : MemR n Lc m0 m1 H w) (hs : SR n Lc m0 m1 s a) (hx : opd x = some y) : Ok1 P o a w n Lc m0 m1 (y.ev s) H :=
  .same hm (x := a.eval x) (by rcases hop with h | h <;> simp [execOp, h]) (opd_ok hs hx)

theorem ok_pick {c x y : Operand} {c' x' y' : Opd} {t : Bool} (hop : o.op = .pick c x y) (hm : MemR n Lc m0 m1 H w) (hs : SR n Lc m0 m1 s a) (hc : opd c = some c') (hx : opd x = some x') (hy : opd y = some y')
    (ht : c'.ev s = .bool t) : Ok1 P o a w n Lc m0 m1 (if t then x'.ev s else y'.ev s) H := by
  have h1 := opd_ok hs hc
  rw [ht] at h1
  have h2 := h1.lit_inv
  refine .same hm (x := if t then a.eval x else a.eval y) (by simp [execOp, hop, h2, asBool]) ?_
  cases t
  · exact opd_ok hs hy
  · exact opd_ok hs hx

theorem zero_ok {t : TypeId} {z : List V} (h : zeroT P t = some z) : ∃ (i : TypeInfo) (zv : Value), P.info? t = some i ∧ i.zero = some zv ∧ zv.cells.size = i.size ∧ z = zv.cells.toList.map .lit ∧ z.all V.leaf = true ∧ 0 < i.size := by
  unfold zeroT at h
  split at h
  · rename_i i hi
    split at h
    · rename_i zv hz
      split at h
      · rename_i hc; cases h; exact ⟨i, zv, hi, hz, hc.1, rfl, hc.2.1, hc.2.2⟩
      · cases h
    · cases h
  · cases h

theorem cells_rel {l : List V} {arr : Array Value} (hv : ∀ j (h : j < l.length) (h' : j < arr.size), VR n Lc m0 m1 l[j] arr[j]) (hall : l.all V.leaf = true) :
    ∀ j (hj : j < l.length) (hj' : j < arr.size), arr[j].oneCell' = true ∧ VR n Lc m0 m1 l[j] arr[j] :=
  fun j hj hj' => ⟨(hv j hj hj').one (List.all_eq_true.1 hall _ (List.getElem_mem hj)), hv j hj hj'⟩
theorem lits_rel (arr : Array Value) : (arr.toList.map V.lit).length = arr.size ∧ ∀ j (h : j < (arr.toList.map V.lit).length) (h' : j < arr.size), VR n Lc m0 m1 (arr.toList.map V.lit)[j] arr[j] :=
  ⟨by simp, fun j h h' => by simp only [List.getElem_map, Array.getElem_toList]; exact .lit_⟩

/-- A new block, and a pointer to it. -/
theorem Ok1.new (hm : MemR n Lc m0 m1 H w) {l : List V} {arr : Array Value} {t : TypeId} (hr : (execOp a.eval o).run P w = .ok (.value (.pointer (some ⟨w.heap.size, 0, none⟩))) (w.alloc (.cells arr t)))
    (hl : l.length = arr.size) (h0 : 0 < l.length) (hv : ∀ j (h : j < l.length) (h' : j < arr.size), VR n Lc m0 m1 l[j] arr[j]) (hall : l.all V.leaf = true) :
    Ok1 P o a w n Lc m0 m1 (.optr H.length 0) (H ++ [.cells l t l.length]) := by
  obtain ⟨h1, h2⟩ := hm.alloc (l := l) (arr := arr) (t := t) (z := l.length) (cap := 1) h0 (by omega) (by simp [maxLen]) (by omega) (cells_rel hv hall)
  refine ⟨_, _, _, _, hr, .inr ⟨_, rfl, ?_⟩, h1, h2⟩
  rw [hm.len]
  have := VR.optr (n := n + 1) (Lc := addL Lc n ⟨w.heap.size, l.length, 1⟩) (m0 := m0) (m1 := m1) n 0 ⟨by omega, by simp [addL]; omega⟩
  simpa [addL] using this
/-- A new block, and a slice of it. -/
theorem Ok1.newRow (hm : MemR n Lc m0 m1 H w) {l : List V} {arr : Array Value} {t : TypeId} {len cap sz : Nat} (hr : (execOp a.eval o).run P w = .ok (.value (.slice (some ⟨w.heap.size, 0, none⟩) len cap)) (w.alloc (.cells arr t)))
    (hl : l.length = arr.size) (h0 : 0 < sz) (hz : arr.size = cap * sz) (hlen : len ≤ cap) (hcap : cap ≤ maxLen) (hv : ∀ j (h : j < l.length) (h' : j < arr.size), VR n Lc m0 m1 l[j] arr[j]) (hall : l.all V.leaf = true) :
    Ok1 P o a w n Lc m0 m1 (.osl H.length 0 len) (H ++ [.cells l t sz]) := by
  obtain ⟨h1, h2⟩ := hm.alloc (l := l) (arr := arr) (t := t) (z := sz) (cap := cap) h0 hz hcap (by omega) (cells_rel hv hall)
  refine ⟨_, _, _, _, hr, .inr ⟨_, rfl, ?_⟩, h1, h2⟩
  rw [hm.len]
  have := VR.osl (n := n + 1) (Lc := addL Lc n ⟨w.heap.size, sz, cap⟩) (m0 := m0) (m1 := m1) n 0 len cap ⟨by omega, by simp [addL]; exact h0⟩ hlen (by simp [addL])
  simpa [addL] using this

theorem ok_alloc {e : TypeId} {z : List V} (hop : o.op = .alloc e) (hm : MemR n Lc m0 m1 H w) (hz : zeroT P e = some z) : Ok1 P o a w n Lc m0 m1 (.optr H.length 0) (H ++ [.cells z e z.length]) := by
  obtain ⟨i, zv, hi, hzv, hsz, rfl, hall, h0⟩ := zero_ok hz
  refine .new hm (arr := zv.cells) ?_ (by simp) (by simp [hsz, h0]) (lits_rel (n := n) (Lc := Lc) (m0 := m0) (m1 := m1) _).2 hall
  simp [execOp, hop, Instr.alloc, zeroValue, typeInfo, hi, hzv, newVar, Go.newRow]
theorem ok_box {e : TypeId} {x : Operand} {y : Opd} (hop : o.op = .box e x) (hm : MemR n Lc m0 m1 H w) (hs : SR n Lc m0 m1 s a) (hx : opd x = some y) (hall : (y.ev s).cells.all V.leaf = true) (h0 : 0 < (y.ev s).cells.length) :
    Ok1 P o a w n Lc m0 m1 (.optr H.length 0) (H ++ [.cells (y.ev s).cells e (y.ev s).cells.length]) := by
  obtain ⟨h1, h2⟩ := (opd_ok hs hx).cells_
  refine .new hm (arr := (a.eval x).cells) ?_ h1 h0 h2 hall
  simp [execOp, hop, Instr.box, newVar, Go.newRow]

/-! ### Reads and writes -/
/-- The cells from an address on. -/
def Cells (n : Nat) (Lc : Nat → Loc) (m0 m1 : Mem) (w : World) (B O : Nat) (l : List V) : Prop := ∀ j (h : j < l.length), ∃ x, w.cell? ⟨B, O + j, none⟩ = some x ∧ x.oneCell' = true ∧ VR n Lc m0 m1 l[j] x
theorem Cells.drop {B O : Nat} {l : List V} (h : Cells n Lc m0 m1 w B O l) (k : Nat) : Cells n Lc m0 m1 w B (O + k) (l.drop k) := fun j hj => by
  obtain ⟨x, h1, h2⟩ := h (k + j) (by simp at hj; omega)
  refine ⟨x, by rw [Nat.add_assoc]; exact h1, ?_⟩
  simpa using h2
theorem Cells.take {B O : Nat} {l : List V} (h : Cells n Lc m0 m1 w B O l) (k : Nat) : Cells n Lc m0 m1 w B O (l.take k) := fun j hj => by
  obtain ⟨x, h1, h2⟩ := h j (by simp at hj; omega)
  exact ⟨x, h1, by simpa using h2⟩
theorem MemR.cells (hm : MemR n Lc m0 m1 H w) {h : Nat} {l : List V} {t z : Nat} (hh : H[h]? = some (.cells l t z)) : Cells n Lc m0 m1 w (Lc h).blk 0 l := fun j hj => by
  obtain ⟨_, _, arr, e1, e2, e3, e4⟩ := hm.own h l t z hh
  obtain ⟨g1, g2⟩ := e4 j hj (by omega)
  exact ⟨_, by rw [cell_of_row w _ _ arr t (0, 0) e1, Nat.zero_add, Array.getElem?_eq_getElem (by omega)], g1, g2⟩
theorem MemR.foreign (hm : MemR n Lc m0 m1 H w) {b : Bool} {l : List V} {B o : Nat} {vs : Nat → Value} (hr : ∀ j, j < l.length → rdC (if b then m1 else m0) B (o + j) = some (vs j) ∧ (vs j).oneCell' = true)
    (hv : ∀ j (h : j < l.length), FR m0 m1 b l[j] (vs j)) : Cells n Lc m0 m1 w B o l := fun j hj => by
  refine ⟨vs j, rdC_cell hm.frn ?_, (hr j hj).2, (hv j hj).up⟩
  have := (hr j hj).1
  cases b
  · exact rdC_le hm.sub this
  · exact this
/-- All of them as a list. -/
theorem Cells.list {B O : Nat} {l : List V} (h : Cells n Lc m0 m1 w B O l) : ∃ xs : List Value, xs.length = l.length ∧ (∀ j u, xs[j]? = some u → w.cell? ⟨B, O + j, none⟩ = some u) ∧ (∀ u ∈ xs, u.oneCell' = true) ∧
    ∀ j (hj : j < l.length) (hj' : j < xs.length), VR n Lc m0 m1 l[j] xs[j] := by
  have key : ∀ k, k ≤ l.length → ∃ xs : List Value, xs.length = k ∧ (∀ j u, xs[j]? = some u → w.cell? ⟨B, O + j, none⟩ = some u) ∧ (∀ u ∈ xs, u.oneCell' = true) ∧ ∀ j (hj : j < l.length) (hj' : j < xs.length), VR n Lc m0 m1 l[j] xs[j] := by
    intro k
    induction k with
    | zero => exact fun _ => ⟨[], rfl, fun j u e => by simp at e, fun u e => by simp at e, fun j _ e => by simp at e⟩
    | succ k ih =>
      intro hk
      obtain ⟨xs, h1, h2, h3, h4⟩ := ih (by omega)
      obtain ⟨x, g1, g2, g3⟩ := h k (by omega)
      refine ⟨xs ++ [x], by simp [h1], fun j u e => ?_, fun u e => ?_, fun j hj hj' => ?_⟩
      · rw [List.getElem?_append] at e
        split at e
        · exact h2 j u e
        · have : j = k := by
            have := (List.getElem?_eq_some_iff.1 e).1; simp at this; omega
          subst this
          simp [h1] at e
          subst e; exact g1
      · rcases List.mem_append.1 e with e | e
        · exact h3 u e
        · simp at e; subst e; exact g2
      · by_cases e : j < xs.length
        · simpa [List.getElem_append, e] using h4 j hj e
        · have : j = k := by simp at hj'; omega
          subst this
          simpa [List.getElem_append, h1] using g3
  exact key _ (Nat.le_refl _)

theorem szT_ok {t : TypeId} {sz : Option Nat} (h : szT P t = some sz) (w : World) : (isAgg t).run P w = .ok sz.isSome w ∧ ∀ k, sz = some k → (sizeOf t).run P w = .ok k w := by
  unfold szT at h
  split at h
  · rename_i i h1 h2; cases h; exact ⟨by simp [isAgg, run_underlying h1], fun k e => by cases e; simp [sizeOf, typeInfo, h2]⟩
  · rename_i i h1 h2; cases h; exact ⟨by simp [isAgg, run_underlying h1], fun k e => by cases e; simp [sizeOf, typeInfo, h2]⟩
  · rename_i d i n1 n2 hu hi
    cases h
    refine ⟨?_, fun k e => by cases e⟩
    cases d <;> simp [isAgg, run_underlying hu] <;> first | exact (n1 _ rfl).elim | exact (n2 _ _ rfl).elim
  · cases h

theorem loadVar_ok {t : TypeId} {sz : Option Nat} (ht : szT P t = some sz) {B O : Nat} {l : List V} {off : Nat} (hc : Cells n Lc m0 m1 w B O l) (hr : readV l off sz = some v) :
    ∃ x, (loadVar t ⟨B, O + off, none⟩).run P w = .ok x w ∧ VR n Lc m0 m1 v x := by
  obtain ⟨h1, h2⟩ := szT_ok ht w
  cases sz with
  | none =>
    simp only [readV] at hr
    obtain ⟨hj, hv⟩ := List.getElem?_eq_some_iff.1 hr
    obtain ⟨x, g1, _, g3⟩ := hc off hj
    exact ⟨x, by simp [loadVar, h1, g1], by rw [← hv]; exact g3⟩
  | some k =>
    simp only [readV] at hr
    split at hr
    · rename_i hk
      cases hr
      obtain ⟨xs, e1, e2, e3, e4⟩ := ((hc.drop off).take k).list
      have hlen : xs.length = k := by rw [e1]; simp; omega
      refine ⟨.agg xs.toArray, ?_, .agg _ _ (by simp [← e1]) fun j hj hj' => by simpa using e4 j hj (by simpa using hj')⟩
      have hl := run_loadCells_list (P := P) w ⟨B, O + off, none⟩ xs fun j u hu => by rw [Addr.add_lit]; exact e2 j u hu
      rw [hlen] at hl
      simp [loadVar, h1, h2 k rfl, hl]
    · cases hr

theorem ok_load {t : TypeId} {x : Operand} {y : Opd} {sz : Option Nat} (hop : o.op = .load t x) (hm : MemR n Lc m0 m1 H w) (hs : SR n Lc m0 m1 s a) (hx : opd x = some y) (ht : szT P t = some sz)
    (he : evI (.ld sz y) s H = some (v, H')) : H' = H ∧ Ok1 P o a w n Lc m0 m1 v H := by
  have hv := opd_ok hs hx
  simp only [evI] at he
  split at he
  · rename_i h off e
    rw [e] at hv
    obtain ⟨hp, hh⟩ := hv.optr_inv
    split at he
    · rename_i l t' z hg
      obtain ⟨u, hu, e2⟩ := Option.map_eq_some_iff.1 he
      cases e2
      refine ⟨rfl, ?_⟩
      unfold getO at hg
      split at hg
      · rename_i l1 t1 z1 ho
        cases hg
        obtain ⟨x', h1, h2⟩ := loadVar_ok ht (hm.cells ho) hu
        rw [Nat.zero_add] at h1
        exact .same hm (by simp [execOp, hop, Instr.loadAt, Instr.sureAddr, hp, h1]) h2
      · cases hg
    · cases he
  · rename_i q l off e
    rw [e] at hv
    obtain ⟨B, o', vs, hp, hr, hfr⟩ := hv.fptr_inv
    obtain ⟨u, hu, e2⟩ := Option.map_eq_some_iff.1 he
    cases e2
    obtain ⟨x', h1, h2⟩ := loadVar_ok ht (hm.foreign hr hfr) hu
    exact ⟨rfl, .same hm (by simp [execOp, hop, Instr.loadAt, Instr.sureAddr, hp, h1]) h2⟩
  · cases he

theorem ok_store {t : TypeId} {x z : Operand} {x' z' : Opd} {ti : TypeInfo} (hop : o.op = .store t x z) (hm : MemR n Lc m0 m1 H w) (hs : SR n Lc m0 m1 s a) (hx : opd x = some x') (hz : opd z = some z') (ht : P.info? t = some ti)
    (he : evI (.st ti.size x' z') s H = some (v, H')) : Ok1 P o a w n Lc m0 m1 v H' := by
  have hxv := opd_ok hs hx
  have hzv := opd_ok hs hz
  simp only [evI] at he
  split at he
  · rename_i h off e
    rw [e] at hxv
    obtain ⟨hp, hh⟩ := hxv.optr_inv
    split at he
    · rename_i l t' sz ho
      split at he
      · rename_i hc
        obtain ⟨c1, c2, c3⟩ := hc
        cases he
        obtain ⟨d1, d2⟩ := hzv.cells_
        obtain ⟨e1, e2, arr, e3, e4, e5, e6⟩ := hm.own h l t' sz ho
        have hsz : (a.eval z).cells.size = ti.size := by rw [← d1, c1]
        have hone : ∀ u ∈ (a.eval z).cells.toList, u.oneCell' = true := fun u hu => by
          obtain ⟨j, hj, rfl⟩ := List.getElem_of_mem hu
          simp at hj ⊢
          exact (d2 j (by omega) hj).one (List.all_eq_true.1 c3 _ (List.getElem_mem (by omega)))
        have hst := run_storeCells_at P (Lc h).blk off t' (a.eval z).cells.toList 0 arr w e3 (by simp; omega) hone
        simp only [Nat.add_zero, Array.length_toList] at hst
        have hrow := setRow_heap w (Lc h).blk arr (arr.toList.take off ++ (a.eval z).cells.toList ++ arr.toList.drop (off + (a.eval z).cells.size)).toArray t' (0, 0) e3
        have hlen : (arr.toList.take off ++ (a.eval z).cells.toList ++ arr.toList.drop (off + (a.eval z).cells.size)).length = arr.size := by simp; omega
        have hzl : (z'.ev s).cells.length = (a.eval z).cells.size := d1
        obtain ⟨g1, g2⟩ := hm.store (w' := w.setRow (Lc h).blk (arr.toList.take off ++ (a.eval z).cells.toList ++ arr.toList.drop (off + (a.eval z).cells.size)).toArray) (l' := l.take off ++ (z'.ev s).cells ++ l.drop (off + ti.size)) ho rfl rfl rfl (by simp) hrow
          (fun b hb => by simp only [World.setRow, Array.getElem?_modify]; rw [if_neg (fun e => hb e.symm)]) (by simp only [List.size_toArray]; rw [hlen, e4]) (by simp only [List.size_toArray, hlen]; simp; omega) (by
            intro j hj hj'
            simp only [List.getElem_toArray]
            by_cases j1 : j < off
            · have q1 : (l.take off ++ (z'.ev s).cells ++ l.drop (off + ti.size))[j] = l[j]'(by omega) := by
                rw [List.getElem_append_left (by simp; omega), List.getElem_append_left (by simp; omega)]; simp
              have q2 : (arr.toList.take off ++ (a.eval z).cells.toList ++ arr.toList.drop (off + (a.eval z).cells.size))[j]'(by simpa using hj') = arr[j]'(by omega) := by
                rw [List.getElem_append_left (by simp; omega), List.getElem_append_left (by simp; omega)]; simp
              rw [q1, q2]; exact e6 j (by omega) (by omega)
            · by_cases j2 : j < off + ti.size
              · have q1 : (l.take off ++ (z'.ev s).cells ++ l.drop (off + ti.size))[j] = (z'.ev s).cells[j - off]'(by omega) := by
                  rw [List.getElem_append_left (by simp; omega), List.getElem_append_right (by simp; omega)]; congr 1; simp; omega
                have q2 : (arr.toList.take off ++ (a.eval z).cells.toList ++ arr.toList.drop (off + (a.eval z).cells.size))[j]'(by simpa using hj') = (a.eval z).cells[j - off]'(by omega) := by
                  rw [List.getElem_append_left (by simp; omega), List.getElem_append_right (by simp; omega)]; simp; congr 1; omega
                rw [q1, q2]
                exact ⟨hone _ (by simp), d2 _ (by omega) (by omega)⟩
              · have hjl : j < l.length := by simp at hj; omega
                have q1 : (l.take off ++ (z'.ev s).cells ++ l.drop (off + ti.size))[j] = l[j] := by
                  rw [List.getElem_append_right (by simp; omega)]; simp; congr 1; omega
                have q2 : (arr.toList.take off ++ (a.eval z).cells.toList ++ arr.toList.drop (off + (a.eval z).cells.size))[j]'(by simpa using hj') = arr[j]'(by omega) := by
                  rw [List.getElem_append_right (by simp; omega)]; simp; congr 1; omega
                rw [q1, q2]; exact e6 j hjl (by omega))
        refine ⟨.skip, _, n, Lc, ?_, .inl ⟨rfl, rfl⟩, g1, g2⟩
        simp [execOp, hop, Instr.storeAt, Instr.sureAddr, hp, storeVar, sizeOf, typeInfo, ht, hsz, hst]
      · cases he
    · cases he
  · cases he

theorem ok_nilc {x : Operand} {y : Opd} (hop : o.op = .nilCheck x) (hm : MemR n Lc m0 m1 H w) (hs : SR n Lc m0 m1 s a) (hx : opd x = some y) (he : evI (.nilc y) s H = some (v, H')) : H' = H ∧ Ok1 P o a w n Lc m0 m1 v H := by
  have hv := opd_ok hs hx
  simp only [evI] at he
  split at he <;> try cases he
  · rename_i h off e
    rw [e] at hv
    obtain ⟨hp, hh⟩ := hv.optr_inv
    exact ⟨rfl, .same hm (x := a.eval x) (by simp [execOp, hop, hp]) hv⟩
  · rename_i q l off e
    rw [e] at hv
    obtain ⟨B, o', vs, hp, hr, hfr⟩ := hv.fptr_inv
    exact ⟨rfl, .same hm (x := a.eval x) (by simp [execOp, hop, hp]) hv⟩

theorem VR.fptr_off {q : Bool} {l : List V} {off k B O : Nat} (h : VR n Lc m0 m1 (.fptr q l off) (.pointer (some ⟨B, O, none⟩))) : VR n Lc m0 m1 (.fptr q l (off + k)) (.pointer (some ⟨B, O + k, none⟩)) := by
  obtain ⟨B', o', vs, hp, hr, hfr⟩ := h.fptr_inv
  cases hp
  rw [Nat.add_assoc]
  exact .fr (.fptr _ _ _ _ _ _ vs (fun _ => rfl) hr hfr)

theorem ok_off {t : TypeId} {x : Operand} {y : Opd} {f : Nat} {fl : Field} {ti : TypeInfo} (hop : o.op = .fieldAddr t x f) (hm : MemR n Lc m0 m1 H w) (hs : SR n Lc m0 m1 s a) (hx : opd x = some y) (hf : fieldT P t f = some fl) (hi : P.info? fl.type = some ti) (h0 : ti.size ≠ 0)
    (he : evI (.off fl.offset y) s H = some (v, H')) : H' = H ∧ Ok1 P o a w n Lc m0 m1 v H := by
  have hv := opd_ok hs hx
  obtain ⟨fs, hu, hfs⟩ : ∃ fs, P.underlying t = some (.struct fs) ∧ fs[f]? = some fl := by
    unfold fieldT at hf
    split at hf
    · exact ⟨_, ‹_›, hf⟩
    · cases hf
  have hrun : ∀ B O, a.eval x = .pointer (some ⟨B, O, none⟩) → (execOp a.eval o).run P w = .ok (.value (.pointer (some ⟨B, O + fl.offset, none⟩))) w := fun B O hp => by
    simp [execOp, hop, Instr.fieldAt, run_underlying hu, hfs, Instr.sureAddr, hp, fieldPlace, sizeOf, typeInfo, hi, h0, Addr.add_lit]
  simp only [evI] at he
  split at he <;> try cases he
  · rename_i h off e
    rw [e] at hv
    obtain ⟨hp, hh⟩ := hv.optr_inv
    exact ⟨rfl, .same hm (hrun _ _ hp) (.optr _ _ hh)⟩
  · rename_i q l off e
    rw [e] at hv
    obtain ⟨B, o', vs, hp, hr, hfr⟩ := hv.fptr_inv
    rw [hp] at hv
    exact ⟨rfl, .same hm (hrun _ _ hp) hv.fptr_off⟩

theorem readV_part {t : TypeId} {sz : Option Nat} (ht : szT P t = some sz) {l : List V} {arr : Array Value} {off : Nat} (hl : l.length = arr.size) (hv : ∀ j (h : j < l.length) (h' : j < arr.size), VR n Lc m0 m1 l[j] arr[j])
    (hr : readV l off sz = some v) : ∃ x, (part t arr off).run P w = .ok x w ∧ VR n Lc m0 m1 v x := by
  obtain ⟨h1, h2⟩ := szT_ok ht w
  cases sz with
  | none =>
    simp only [readV] at hr
    obtain ⟨hj, he⟩ := List.getElem?_eq_some_iff.1 hr
    refine ⟨arr[off]'(by omega), ?_, by rw [← he]; exact hv off hj (by omega)⟩
    simp [part, h1, Array.getElem?_eq_getElem (show off < arr.size by omega)]
  | some k =>
    simp only [readV] at hr
    split at hr
    · rename_i hk
      cases hr
      refine ⟨.agg (arr.extract off (off + k)), by simp [part, h1, h2 k rfl], .agg _ _ (by simp; omega) fun j hj hj' => ?_⟩
      simp only [List.getElem_take, List.getElem_drop, Array.getElem_extract]
      exact hv _ (by simp at hj; omega) (by simp at hj; omega)
    · cases hr

theorem ok_fld {t : TypeId} {x : Operand} {y : Opd} {f : Nat} {fl : Field} {sz : Option Nat} (hop : o.op = .field t x f) (hm : MemR n Lc m0 m1 H w) (hs : SR n Lc m0 m1 s a) (hx : opd x = some y) (hf : fieldT P t f = some fl) (ht : szT P fl.type = some sz)
    (he : evI (.fld fl.offset sz y) s H = some (v, H')) : H' = H ∧ Ok1 P o a w n Lc m0 m1 v H := by
  have hv := opd_ok hs hx
  obtain ⟨fs, hu, hfs⟩ : ∃ fs, P.underlying t = some (.struct fs) ∧ fs[f]? = some fl := by
    unfold fieldT at hf
    split at hf
    · exact ⟨_, ‹_›, hf⟩
    · cases hf
  simp only [evI] at he
  split at he <;> try cases he
  rename_i l e
  rw [e] at hv
  obtain ⟨arr, hp, hl, hr⟩ := hv.agg_inv
  obtain ⟨u, hu2, e2⟩ := Option.map_eq_some_iff.1 he
  cases e2
  obtain ⟨x', h1, h2⟩ := readV_part (w := w) ht hl hr hu2
  exact ⟨rfl, .same hm (by simp [execOp, hop, Instr.field, run_underlying hu, hfs, asAgg, hp, h1]) h2⟩

theorem sliceT_ok {t e : TypeId} {sz by_ : Nat} (h : sliceT P t = some (e, sz, by_)) : ∃ i, P.underlying t = some (.slice e) ∧ P.info? e = some i ∧ i.size = sz ∧ i.bytes = by_ ∧ 0 < sz ∧ 0 < by_ := by
  unfold sliceT at h
  split at h
  · rename_i e' hu
    split at h
    · rename_i i hi
      split at h
      · rename_i hc; cases h; exact ⟨i, hu, hi, rfl, rfl, hc.1, hc.2⟩
      · cases h
    · cases h
  · cases h

theorem ok_ia {t e : TypeId} {sz by_ : Nat} {x y : Operand} {x' y' : Opd} (hop : o.op = .indexAddr t x y) (hm : MemR n Lc m0 m1 H w) (hs : SR n Lc m0 m1 s a) (hx : opd x = some x') (hy : opd y = some y') (ht : sliceT P t = some (e, sz, by_))
    (he : evI (.ia sz x' y') s H = some (v, H')) : H' = H ∧ Ok1 P o a w n Lc m0 m1 v H := by
  have hv := opd_ok hs hx
  have hi := opd_ok hs hy
  obtain ⟨ti, hu, hti, rfl, rfl, _, _⟩ := sliceT_ok ht
  have hrun : ∀ A len cap k (q : Int), a.eval x = .slice (some A) len cap → a.eval y = .int k q → 0 ≤ q → q < len → (execOp a.eval o).run P w = .ok (.value (.pointer (some (A.add (q.toNat * ti.size))))) w := fun A len cap k q h1 h2 h3 h4 => by
    simp [execOp, hop, Instr.indexAt, asIntOf, h2, run_underlying hu, h1, h3, h4, sizeOf, typeInfo, hti]
  simp only [evI] at he
  split at he <;> try cases he
  rename_i k q ey
  rw [ey] at hi
  have hi := hi.lit_inv
  split at he <;> try cases he
  · rename_i h off len ex
    rw [ex] at hv
    obtain ⟨cap, hp, hh, _⟩ := hv.osl_inv
    split at he <;> cases he
    rename_i hb
    refine ⟨rfl, .same hm (hrun _ _ _ _ _ hp hi hb.1 hb.2) ?_⟩
    rw [Addr.add_lit]
    exact .optr _ _ hh
  · rename_i b l len ex
    rw [ex] at hv
    obtain ⟨A, cap, B, o', vs, hp, _, hA, hr, hfr⟩ := hv.fsl_inv
    split at he <;> cases he
    rename_i hb
    have hA := hA (fun e => by rw [e] at hb; simp at hb)
    subst hA
    refine ⟨rfl, .same hm (hrun _ _ _ _ _ hp hi hb.1 hb.2.1) ?_⟩
    rw [Addr.add_lit]
    exact .fr (.fptr _ _ _ _ _ _ vs (fun _ => rfl) hr hfr)

theorem ok_idx {t : TypeId} {x y : Operand} {x' y' : Opd} (hop : o.op = .index t x y) (hm : MemR n Lc m0 m1 H w) (hs : SR n Lc m0 m1 s a) (hx : opd x = some x') (hy : opd y = some y') (ht : P.underlying t = some .string)
    (he : evI (.idx x' y') s H = some (v, H')) : H' = H ∧ Ok1 P o a w n Lc m0 m1 v H := by
  have hv := opd_ok hs hx
  have hi := opd_ok hs hy
  simp only [evI] at he
  split at he <;> try cases he
  rename_i b k q ex ey
  rw [ex] at hv
  rw [ey] at hi
  have hv := hv.lit_inv
  have hi := hi.lit_inv
  split at he <;> try cases he
  rename_i h0
  split at he <;> cases he
  rename_i c hc
  exact ⟨rfl, .same hm (x := .int .u8 c.toNat) (by simp [execOp, hop, Instr.index, asIntOf, hi, hv, run_underlying ht, h0, hc]) .lit_⟩

theorem ok_ixa {t e : TypeId} {m : Nat} {x y : Operand} {x' y' : Opd} {sz : Option Nat} {ti : TypeInfo} (hop : o.op = .index t x y) (hm : MemR n Lc m0 m1 H w) (hs : SR n Lc m0 m1 s a) (hx : opd x = some x') (hy : opd y = some y') (ht : P.underlying t = some (.array m e))
    (hsz : szT P e = some sz) (hti : P.info? e = some ti) (hone : ti.size = sz.getD 1) (he : evI (.ixa sz m x' y') s H = some (v, H')) : H' = H ∧ Ok1 P o a w n Lc m0 m1 v H := by
  have hv := opd_ok hs hx
  have hi := opd_ok hs hy
  simp only [evI] at he
  split at he <;> try cases he
  rename_i l k q ex ey
  rw [ex] at hv
  rw [ey] at hi
  have hi := hi.lit_inv
  obtain ⟨arr, hp, hl, hr⟩ := hv.agg_inv
  split at he <;> try cases he
  rename_i hb
  obtain ⟨u, hu2, e2⟩ := Option.map_eq_some_iff.1 he
  cases e2
  obtain ⟨x', h1, h2⟩ := readV_part (w := w) hsz hl hr hu2
  exact ⟨rfl, .same hm (x := x') (by simp [execOp, hop, Instr.index, asIntOf, hi, hp, run_underlying ht, hb.1, hb.2, sizeOf, typeInfo, hti, hone, h1]) h2⟩

/-! ### Reckoning -/
theorem binI_ok {op : BinOp} {k : IntKind} {p q : Int} {u : Value} (h : binI op k p q = some u) (hsh : op ≠ .shl ∧ op ≠ .shr) (t : TypeId) (x y : Operand) :
    (do eqGuard op t x y (.int k p) (.int k q); binOp op t (.int k p) (.int k q)).run P w = .ok u w := by
  rw [eqGuard_at_int]
  cases op <;> simp only [binI, Option.some.injEq, ne_eq, not_true_eq_false, false_and, and_false] at h hsh <;> first
    | (subst h; simp [binOp_add, binOp_sub, binOp_mul, binOp_and, binOp_or, binOp_xor, binOp_andNot, binOp_eql, binOp_neq, binOp_lss, binOp_leq, binOp_gtr, binOp_geq, Op.intArith, intBits_and, intBits_or, intBits_xor, intBits_andNot]; done)
    | (split at h <;> cases h; rename_i h0; simp [binOp_quo, binOp_rem, Op.intDiv, h0])
theorem binI_sh {op : BinOp} {k k' : IntKind} {p q : Int} {u : Value} (h : binI op k p q = some u) (hsh : op = .shl ∨ op = .shr) (t : TypeId) (x y : Operand) :
    (do eqGuard op t x y (.int k p) (.int k' q); binOp op t (.int k p) (.int k' q)).run P w = .ok u w := by
  rw [eqGuard_at_int]
  rcases hsh with rfl | rfl <;> simp only [binI] at h <;> split at h <;> cases h <;> rename_i h0 <;> simp [binOp_shl, binOp_shr, Op.shift, h0]

theorem ok_bin {op : BinOp} {t t' : TypeId} {x y : Operand} {x' y' : Opd} (hop : o.op = .binOp op t x y t') (hm : MemR n Lc m0 m1 H w) (hs : SR n Lc m0 m1 s a) (hx : opd x = some x') (hy : opd y = some y')
    (he : evI (.bin op x' y') s H = some (v, H')) : H' = H ∧ Ok1 P o a w n Lc m0 m1 v H := by
  have hxv := opd_ok hs hx
  have hyv := opd_ok hs hy
  simp only [evI] at he
  obtain ⟨u, hu, e2⟩ := Option.map_eq_some_iff.1 he
  cases e2
  refine ⟨rfl, ?_⟩
  have hrun : ∀ z, (do eqGuard op t x y (a.eval x) (a.eval y); binOp op t (a.eval x) (a.eval y)).run P w = .ok z w → (execOp a.eval o).run P w = .ok (.value z) w := fun z hz => by
    simp only [execOp, hop]
    rw [Sem.run_bind, hz]
    rfl
  unfold binV at hu
  split at hu
  · rename_i k p k' q ex ey
    rw [ex] at hxv
    rw [ey] at hyv
    have h1 := hxv.lit_inv
    have h2 := hyv.lit_inv
    split at hu
    · obtain ⟨z, hz, rfl⟩ := Option.map_eq_some_iff.1 hu
      exact .same hm (hrun z (by rw [h1, h2]; exact binI_sh hz (.inl rfl) _ _ _)) .lit_
    · obtain ⟨z, hz, rfl⟩ := Option.map_eq_some_iff.1 hu
      exact .same hm (hrun z (by rw [h1, h2]; exact binI_sh hz (.inr rfl) _ _ _)) .lit_
    · rename_i n1 n2
      split at hu
      · rename_i hk
        subst hk
        obtain ⟨z, hz, rfl⟩ := Option.map_eq_some_iff.1 hu
        exact .same hm (hrun z (by rw [h1, h2]; exact binI_ok hz ⟨n1, n2⟩ _ _ _)) .lit_
      · cases hu
  · rename_i p q ex ey
    rw [ex] at hxv
    rw [ey] at hyv
    have h1 := hxv.lit_inv
    have h2 := hyv.lit_inv
    split at hu <;> cases hu
    · exact .same hm (hrun _ (by rw [h1, h2, eqGuard_at_string]; simp [binOp, Op.stringOp])) .lit_
    · exact .same hm (hrun _ (by rw [h1, h2, eqGuard_at_string]; simp [binOp, Op.stringOp])) .lit_
  · cases hu

theorem ok_beq {op : BinOp} {t t' : TypeId} {x y : Operand} {x' y' : Opd} {neg : Bool} (hop : o.op = .binOp op t x y t') (hneg : op = if neg then .neq else .eql) (ht : P.underlying t = some .bool)
    (hm : MemR n Lc m0 m1 H w) (hs : SR n Lc m0 m1 s a) (hx : opd x = some x') (hy : opd y = some y') (he : evI (.beq neg x' y') s H = some (v, H')) : H' = H ∧ Ok1 P o a w n Lc m0 m1 v H := by
  have hxv := opd_ok hs hx
  have hyv := opd_ok hs hy
  simp only [evI] at he
  split at he <;> cases he
  rename_i p q ex ey
  rw [ex] at hxv
  rw [ey] at hyv
  have h1 := hxv.lit_inv
  have h2 := hyv.lit_inv
  refine ⟨rfl, .same hm (x := .bool (if neg then !(p == q) else p == q)) ?_ .lit_⟩
  have hq := run_equalIn_bool' w 9999 t p q ht
  simp only [execOp, hop, h1, h2, eqGuard_at_bool]
  cases neg <;> subst hneg <;> simp [binOp, Op.equal, Op.maxDepth, hq]

theorem leafEq_ok {t : TypeId} {k : Nat} (ht : leafT P t = some k) {u z : V} {x y : Value} (hu : VR n Lc m0 m1 u x) (hz : VR n Lc m0 m1 z y) {b : Bool} (h : leafEq k u z = some b) (d : Nat) :
    (Op.equalIn (d + 1) t x y).run P w = .ok b w := by
  unfold leafT at ht
  unfold leafEq at h
  split at h
  · split at h <;> cases h
    rename_i hk; subst hk
    rw [hu.lit_inv, hz.lit_inv]
    split at ht <;> cases ht
    exact run_equalIn_int w d _ _ _ _ _ ‹_›
  · cases h
    rw [hu.lit_inv, hz.lit_inv]
    split at ht <;> cases ht
    exact run_equalIn_bool' w d _ _ _ ‹_›
  · cases h
    rw [hu.lit_inv, hz.lit_inv]
    split at ht <;> cases ht
    rw [run_equalIn_string w d _ _ _ ‹_›, beq_toListBytes]
  · cases h
theorem leafT_agg {t : TypeId} {k : Nat} (ht : leafT P t = some k) (w : World) : (isAgg t).run P w = .ok false w := by
  unfold leafT at ht
  split at ht <;> cases ht <;> simp [isAgg, run_underlying ‹_›]

theorem eqFields_ok {d : Nat} {xs ys : Array Value} {l m : List V} (hl : l.length = xs.size) (hm : m.length = ys.size) (hx : ∀ j (h : j < l.length) (h' : j < xs.size), VR n Lc m0 m1 l[j] xs[j]) (hy : ∀ j (h : j < m.length) (h' : j < ys.size), VR n Lc m0 m1 m[j] ys[j]) :
    ∀ (fs : List Field) (k : Nat) (r : Bool), l.length = k + fs.length → m.length = k + fs.length → (∀ j f, fs[j]? = some f → f.name ≠ "_" ∧ f.offset = k + j ∧ (leafT P f.type).isSome = true) →
      leavesEq (fs.map fun f => (leafT P f.type).getD 3) (l.drop k) (m.drop k) = some r → (Op.eqFields (d + 1) xs ys fs).run P w = .ok r w
  | [], k, r, h1, h2, _, he => by
    rw [List.drop_of_length_le (by simp at h1; omega), List.drop_of_length_le (by simp at h2; omega)] at he
    cases he
    simp [Op.eqFields]
  | f :: fs, k, r, h1, h2, hf, he => by
    have hk : k < l.length := by simp at h1; omega
    have hk' : k < m.length := by simp at h2; omega
    rw [List.drop_eq_getElem_cons hk, List.drop_eq_getElem_cons hk'] at he
    obtain ⟨g1, g2, g3⟩ := hf 0 f rfl
    obtain ⟨q, g3⟩ := Option.isSome_iff_exists.1 g3
    have hpart : ∀ (zs : Array Value) (h : k < zs.size), (part f.type zs f.offset).run P w = .ok zs[k] w := fun zs h => by
      have e : zs[f.offset]? = some zs[k] := by rw [g2]; exact Array.getElem?_eq_getElem h
      simp [part, leafT_agg g3, e]
    simp only [leavesEq, List.map_cons, g3, Option.getD_some] at he
    simp only [Op.eqFields, if_pos g1, Sem.run_bind, hpart xs (by omega), hpart ys (by omega), Result.andThen_ok]
    split at he
    · rename_i e
      rw [leafEq_ok g3 (hx k hk (by omega)) (hy k hk' (by omega)) e]
      simp only [Result.andThen_ok, Bool.not_true, Bool.false_eq_true, if_false]
      exact eqFields_ok hl hm hx hy fs (k + 1) r (by simp at h1; omega) (by simp at h2; omega) (fun j f' hj => by
        obtain ⟨a1, a2, a3⟩ := hf (j + 1) f' (by simpa using hj)
        exact ⟨a1, by omega, a3⟩) he
    · rename_i e
      cases he
      rw [leafEq_ok g3 (hx k hk (by omega)) (hy k hk' (by omega)) e]
      simp
    · cases he

theorem plainT_ok {t : TypeId} (h : plainT P t = true) : P.underlying t = some (.struct (P.fieldsOf t)) ∧ P.stoodInHeld t = false ∧ P.eqGuardType P.depth t = false ∧ ∀ j f, (P.fieldsOf t).toList[j]? = some f → f.name ≠ "_" ∧ f.offset = 0 + j ∧ (leafT P f.type).isSome = true := by
  unfold plainT at h
  split at h
  · rename_i fs hu
    have hfs : P.fieldsOf t = fs := by simp [Program.fieldsOf, hu]
    simp only [Bool.and_eq_true, Bool.not_eq_true', List.all_eq_true] at h
    refine ⟨by rw [hfs, hu], h.1.1, h.1.2, fun j f hj => ?_⟩
    rw [hfs] at hj
    have := h.2 (f, j) (by
      obtain ⟨hj1, hj2⟩ := List.getElem?_eq_some_iff.1 hj
      rw [List.mem_iff_getElem]
      exact ⟨j, by simpa using hj1, by simp [List.getElem_zipIdx]; simpa using hj2⟩)
    simp only [Bool.and_eq_true, bne_iff_ne, ne_eq, beq_iff_eq] at this
    exact ⟨this.1.1, by omega, this.2⟩
  · cases h

theorem ok_aeq {op : BinOp} {t t' : TypeId} {x y : Operand} {x' y' : Opd} {neg : Bool} (hop : o.op = .binOp op t x y t') (hneg : op = if neg then .neq else .eql) (ht : plainT P t = true)
    (hm : MemR n Lc m0 m1 H w) (hs : SR n Lc m0 m1 s a) (hx : opd x = some x') (hy : opd y = some y') (he : evI (.aeq neg ((P.fieldsOf t).toList.map fun f => (leafT P f.type).getD 3) x' y') s H = some (v, H')) : H' = H ∧ Ok1 P o a w n Lc m0 m1 v H := by
  have hxv := opd_ok hs hx
  have hyv := opd_ok hs hy
  simp only [evI] at he
  split at he <;> try cases he
  rename_i l m ex ey
  rw [ex] at hxv
  rw [ey] at hyv
  obtain ⟨xs, h1, h2, h3⟩ := hxv.agg_inv
  obtain ⟨ys, h4, h5, h6⟩ := hyv.agg_inv
  split at he <;> try cases he
  rename_i hc
  obtain ⟨r, hr, e2⟩ := Option.map_eq_some_iff.1 he
  cases e2
  obtain ⟨p1, p2, p3, p4⟩ := plainT_ok ht
  have hf := eqFields_ok (w := w) (d := 9998) h2 h5 h3 h6 (P.fieldsOf t).toList 0 r (by simpa using hc.1) (by simpa using hc.2) p4 hr
  have hq : (Op.equalIn 10000 t (.agg xs) (.agg ys)).run P w = .ok r w := (run_equalIn_struct w 9999 t xs ys p1 p2).trans hf
  have hg := fun op' => run_eqGuard_agg (P := P) w op' t x y xs ys p3
  refine ⟨rfl, .same hm (x := .bool (if neg then !r else r)) ?_ .lit_⟩
  simp only [execOp, hop, h1, h4]
  cases neg <;> subst hneg <;> simp [hg, binOp, Op.equal, Op.maxDepth, hq]

theorem ok_snil {op : BinOp} {t t' e : TypeId} {x y : Operand} {x' y' : Opd} {neg : Bool} (hop : o.op = .binOp op t x y t') (hneg : op = if neg then .neq else .eql) (ht : P.underlying t = some (.slice e)) (hnil : isNil y' = true)
    (hm : MemR n Lc m0 m1 H w) (hs : SR n Lc m0 m1 s a) (hx : opd x = some x') (hy : opd y = some y') (he : evI (.snil neg x') s H = some (v, H')) : H' = H ∧ Ok1 P o a w n Lc m0 m1 v H := by
  have hxv := opd_ok hs hx
  have hyv := opd_ok hs hy
  have hyn : a.eval y = .slice none 0 0 := by
    unfold isNil at hnil
    split at hnil
    · exact hyv.lit_inv
    · cases hnil
  have hrun : ∀ A len cap, a.eval x = .slice A len cap → (execOp a.eval o).run P w = .ok (.value (.bool (if neg then !A.isNone else A.isNone))) w := fun A len cap h => by
    have e1 : (binOp .eql t (.slice A len cap) (.slice none 0 0)).run P w = .ok (.bool A.isNone) w := by
      simp only [binOp]
      simp [run_equal_slice_nil w t e A len cap ht]
    have e2 := run_neq_slice_nil (P := P) w t e A len cap ht
    simp only [execOp, hop, h, hyn, eqGuard_at_slice]
    cases neg <;> subst hneg <;> simp [e1, e2]
  simp only [evI] at he
  split at he
  · rename_i ex
    cases he
    rw [ex] at hxv
    exact ⟨rfl, .same hm (hrun _ _ _ hxv.lit_inv) (by cases neg <;> exact .lit_)⟩
  · rename_i h off len ex
    cases he
    rw [ex] at hxv
    obtain ⟨cap, hp, _⟩ := hxv.osl_inv
    exact ⟨rfl, .same hm (hrun _ _ _ hp) (by cases neg <;> exact .lit_)⟩
  · rename_i q l len ex
    split at he <;> cases he
    rename_i h0
    rw [ex] at hxv
    obtain ⟨A, cap, B, o', vs, hp, _, hA, hr, hfr⟩ := hxv.fsl_inv
    rw [hA (fun e => by rw [e] at h0; simp at h0)] at hp
    exact ⟨rfl, .same hm (hrun _ _ _ hp) (by cases neg <;> exact .lit_)⟩
  · cases he

theorem ok_un {op : UnOp} {t : TypeId} {x : Operand} {y : Opd} (hop : o.op = .unOp op t x) (hm : MemR n Lc m0 m1 H w) (hs : SR n Lc m0 m1 s a) (hx : opd x = some y) (he : evI (.un op y) s H = some (v, H')) : H' = H ∧ Ok1 P o a w n Lc m0 m1 v H := by
  have hv := opd_ok hs hx
  simp only [evI] at he
  obtain ⟨u, hu, e2⟩ := Option.map_eq_some_iff.1 he
  cases e2
  refine ⟨rfl, ?_⟩
  unfold unV at hu
  split at hu <;> cases hu <;> rename_i e <;> rw [e] at hv <;> have h1 := hv.lit_inv
  · exact .same hm (by simp [execOp, hop, h1, Op.unary]) .lit_
  · exact .same hm (by simp [execOp, hop, h1, Op.unary, Op.intArith]) .lit_
  · exact .same hm (by simp [execOp, hop, h1, Op.unary, intBits_xor]) .lit_

theorem ok_wrap {src dst : TypeId} {x : Operand} {y : Opd} {k : IntKind} {d : TypeDesc} (hop : o.op = .convert src dst x) (hsrc : P.underlying src = some d) (hdst : P.underlying dst = some (.int k))
    (hm : MemR n Lc m0 m1 H w) (hs : SR n Lc m0 m1 s a) (hx : opd x = some y) (he : evI (.wrap k y) s H = some (v, H')) : H' = H ∧ Ok1 P o a w n Lc m0 m1 v H := by
  have hv := opd_ok hs hx
  simp only [evI] at he
  split at he <;> cases he
  rename_i k' q e
  rw [e] at hv
  exact ⟨rfl, .same hm (x := .int k (k.wrap q)) (by simp [execOp, hop, hv.lit_inv, convert, run_underlying hsrc, run_underlying hdst, Conv.intToInt]) .lit_⟩
theorem ok_sst {src dst : TypeId} {x : Operand} {y : Opd} {d : TypeDesc} (hop : o.op = .convert src dst x) (hsrc : P.underlying src = some d) (hdst : P.underlying dst = some .string)
    (hm : MemR n Lc m0 m1 H w) (hs : SR n Lc m0 m1 s a) (hx : opd x = some y) (he : evI (.sst y) s H = some (v, H')) : H' = H ∧ Ok1 P o a w n Lc m0 m1 v H := by
  have hv := opd_ok hs hx
  simp only [evI] at he
  split at he <;> cases he
  rename_i q e
  rw [e] at hv
  exact ⟨rfl, .same hm (x := .string q) (by simp [execOp, hop, hv.lit_inv, convert, run_underlying hsrc, run_underlying hdst]) .lit_⟩

/-- What a slice's value stands for. -/
theorem sliceV_ok (hm : MemR n Lc m0 m1 H w) {sz m : Nat} {l : List V} {u : V} {x : Value} (h : sliceV H sz u = some (l, m)) (hv : VR n Lc m0 m1 u x) :
    ∃ (A : Option Addr) (cap B O : Nat) (xs : List Value), x = .slice A m cap ∧ m ≤ cap ∧ l.length = m * sz ∧ xs.length = l.length ∧ (l ≠ [] → A = some ⟨B, O, none⟩) ∧ (∀ j y, xs[j]? = some y → w.cell? ⟨B, O + j, none⟩ = some y) ∧
      (∀ y ∈ xs, y.oneCell' = true) ∧ ∀ j (hj : j < l.length) (hj' : j < xs.length), VR n Lc m0 m1 l[j] xs[j] := by
  have nil : ∀ A cap, x = .slice A 0 cap → l = [] → m = 0 → ∃ (A : Option Addr) (cap B O : Nat) (xs : List Value), x = .slice A m cap ∧ m ≤ cap ∧ l.length = m * sz ∧ xs.length = l.length ∧ (l ≠ [] → A = some ⟨B, O, none⟩) ∧ (∀ j y, xs[j]? = some y → w.cell? ⟨B, O + j, none⟩ = some y) ∧
      (∀ y ∈ xs, y.oneCell' = true) ∧ ∀ j (hj : j < l.length) (hj' : j < xs.length), VR n Lc m0 m1 l[j] xs[j] := by
    rintro A cap rfl rfl rfl
    exact ⟨A, cap, 0, 0, [], rfl, by omega, by simp, rfl, fun e => absurd rfl e, fun j y e => by simp at e, fun y e => by simp at e, fun j e => by simp at e⟩
  unfold sliceV at h
  split at h
  · cases h; exact nil none 0 hv.lit_inv rfl rfl
  · cases h; obtain ⟨A, rfl⟩ := hv.zsl_inv; exact nil A 0 rfl rfl rfl
  · rename_i h1 off len
    obtain ⟨cap, hp, hh, hc, _⟩ := hv.osl_inv
    unfold getO at h
    split at h
    · rename_i l1 t1 z1 hg
      split at hg
      · rename_i l2 t2 z2 ho
        cases hg
        split at h <;> cases h
        rename_i hb
        obtain ⟨xs, e1, e2, e3, e4⟩ := (((hm.cells ho).drop off).take (m * sz)).list
        rw [Nat.zero_add] at e2
        exact ⟨some ⟨(Lc h1).blk, off, none⟩, cap, (Lc h1).blk, off, xs, hp, hc, by simp; omega, e1, fun _ => rfl, e2, e3, e4⟩
      · cases hg
    · cases h
  · rename_i q l1 len
    split at h <;> cases h
    rename_i hl
    obtain ⟨A, cap, B, o', vs, hp, hc, hA, hr, hfr⟩ := hv.fsl_inv
    obtain ⟨xs, e1, e2, e3, e4⟩ := (hm.foreign hr hfr).list
    exact ⟨A, cap, B, o', xs, hp, hc, hl, e1, hA, e2, e3, e4⟩
  · cases h

theorem bytesV_ok : ∀ {l : List V} {b : List UInt8}, bytesV l = some b → ∃ ns : List Int, ns.length = l.length ∧ b = ns.map (fun n => UInt8.ofNat n.toNat) ∧ ∀ j (h : j < l.length), l[j] = .lit (.int .u8 (ns.getD j 0))
  | [], b, h => by cases h; exact ⟨[], rfl, rfl, fun j h => by simp at h⟩
  | x :: l, b, h => by
    unfold bytesV at h
    split at h
    · rename_i e; cases e
    · rename_i q l' e
      cases e
      obtain ⟨b', hb, rfl⟩ := Option.map_eq_some_iff.1 h
      obtain ⟨ns, h1, h2, h3⟩ := bytesV_ok hb
      refine ⟨q :: ns, by simp [h1], by simp [h2], fun j hj => ?_⟩
      cases j with
      | zero => rfl
      | succ j => simpa using h3 j (by simpa using hj)
    · cases h

theorem ok_str {src dst e : TypeId} {x : Operand} {y : Opd} (hop : o.op = .convert src dst x) (hsrc : P.underlying src = some (.slice e)) (hel : P.underlying e = some (.int .u8)) (hdst : P.underlying dst = some .string)
    (hm : MemR n Lc m0 m1 H w) (hs : SR n Lc m0 m1 s a) (hx : opd x = some y) (he : evI (.str y) s H = some (v, H')) : H' = H ∧ Ok1 P o a w n Lc m0 m1 v H := by
  have hv := opd_ok hs hx
  simp only [evI] at he
  split at he
  · rename_i l m hsl
    obtain ⟨b, hb, e2⟩ := Option.map_eq_some_iff.1 he
    cases e2
    obtain ⟨A, cap, B, O, xs, hp, hmc, h1, h2, h3, h4, h5, h6⟩ := sliceV_ok hm hsl hv
    obtain ⟨ns, g1, rfl, g3⟩ := bytesV_ok hb
    refine ⟨rfl, .same hm (x := .string (strOfNums ns)) ?_ (by rw [show (⟨(ns.map fun n => UInt8.ofNat n.toNat).toArray⟩ : ByteArray) = strOfNums ns from rfl]; exact .lit_)⟩
    have key : (convert src dst (a.eval x)).run P w = .ok (.string (strOfNums ns)) w := by
      rw [hp]
      by_cases h0 : l = []
      · subst h0
        have hns : ns = [] := List.eq_nil_of_length_eq_zero (by simpa using g1)
        subst hns
        have hm0 : m = 0 := by simp at h1; omega
        subst hm0
        cases A with
        | none => rw [run_convert_bytes_nil w src e hsrc hel 0 cap dst hdst]; rfl
        | some ad => simp [convert, run_underlying hsrc, run_underlying hdst, run_underlying hel, Conv.bytesToString, loadCells, loadCellsFrom]; rfl
      · rw [h3 h0]
        refine run_convert_bytes_arg w src e hsrc hel B O m cap ns (by omega) (fun i hi => ?_) dst hdst
        have hil : i < l.length := by omega
        have := h6 i hil (by omega)
        rw [g3 i hil] at this
        rw [h4 i _ (List.getElem?_eq_getElem (by omega)), this.lit_inv]
    simp [execOp, hop, key]
  · cases he
end
end Go.Proofs.Vm
/-! The rest of the instructions; what the compiler gives for an operation does what the operation does. -/
namespace Go.Proofs.Vm
open Go

section
variable {P : Program} {n : Nat} {Lc : Nat → Loc} {m0 m1 : Mem} {H H' : List O} {w : World} {s : Nat → V} {a : Act} {o : Oper} {v : V} {i : Ins}

/-- Cell for cell. -/
def Rel (n : Nat) (Lc : Nat → Loc) (m0 m1 : Mem) (l : List V) (arr : Array Value) : Prop := l.length = arr.size ∧ ∀ j (h : j < l.length) (h' : j < arr.size), VR n Lc m0 m1 l[j] arr[j]

inductive Parts (place : Nat → Option (Nat × Nat)) : List (Nat × Operand) → List (Nat × Nat × Opd) → Prop
  | nil : Parts place [] []
  | cons {i off sz : Nat} {x : Operand} {y : Opd} {ps : List (Nat × Operand)} {qs : List (Nat × Nat × Opd)} : place i = some (off, sz) → opd x = some y → Parts place ps qs → Parts place ((i, x) :: ps) ((off, sz, y) :: qs)

theorem laid_rel {l : List V} {arr : Array Value} (h : Rel n Lc m0 m1 l arr) {u : List V} {x : Array Value} (hu : Rel n Lc m0 m1 u x) {off : Nat} (ho : off + u.length ≤ l.length) :
    Rel n Lc m0 m1 (l.take off ++ u ++ l.drop (off + u.length)) (x.zipIdx.foldl (fun cs (p : Value × Nat) => cs.setIfInBounds (off + p.2) p.1) arr) := by
  obtain ⟨h1, h2⟩ := h
  obtain ⟨u1, u2⟩ := hu
  obtain ⟨f1, f2⟩ := Great.foldl_set off x.toList 0 arr
  have e : x.zipIdx.foldl (fun cs (p : Value × Nat) => cs.setIfInBounds (off + p.2) p.1) arr = (x.toList.zipIdx 0).foldl (fun cs (p : Value × Nat) => cs.setIfInBounds (off + p.2) p.1) arr := by
    rw [← Array.foldl_toList]; simp
  rw [e]
  refine ⟨by rw [f1]; simp; omega, fun j hj hj' => ?_⟩
  have hj2 : j < l.length := by simp at hj; omega
  have hg := f2 j
  rw [Array.getElem?_eq_getElem hj'] at hg
  by_cases c : off + 0 ≤ j ∧ j < off + 0 + x.toList.length ∧ j < arr.size
  · rw [if_pos c] at hg
    have hx : j - off < x.size := by simp at c; omega
    have e2 : ((x.toList.zipIdx 0).foldl (fun cs (p : Value × Nat) => cs.setIfInBounds (off + p.2) p.1) arr)[j] = x[j - off] := by
      have : x.toList[j - (off + 0)]? = some x[j - off] := by rw [Nat.add_zero]; simp [hx]
      rw [this] at hg; exact Option.some.inj hg
    have e3 : (l.take off ++ u ++ l.drop (off + u.length))[j] = u[j - off]'(by omega) := by
      rw [List.getElem_append_left (by simp; omega), List.getElem_append_right (by simp; omega)]; congr 1; simp; omega
    rw [e2, e3]; exact u2 _ _ _
  · rw [if_neg c] at hg
    have e2 : ((x.toList.zipIdx 0).foldl (fun cs (p : Value × Nat) => cs.setIfInBounds (off + p.2) p.1) arr)[j] = arr[j]'(by omega) := by
      rw [Array.getElem?_eq_getElem (by omega)] at hg; exact Option.some.inj hg
    have e3 : (l.take off ++ u ++ l.drop (off + u.length))[j] = l[j] := by
      by_cases c1 : j < off
      · rw [List.getElem_append_left (by simp; omega), List.getElem_append_left (by simp; omega)]; simp
      · rw [List.getElem_append_right (by simp at c ⊢; omega)]; simp; congr 1; simp at c; omega
    rw [e2, e3]; exact h2 _ _ _

theorem fill_ok (hs : SR n Lc m0 m1 s a) {place : Nat → Option (Nat × Nat)} {ps : List (Nat × Operand)} {qs : List (Nat × Nat × Opd)} (hp : Parts place ps qs) :
    ∀ {l l' : List V} {arr : Array Value}, Rel n Lc m0 m1 l arr → fillV s l qs = some l' → ∃ arr', Instr.fill place arr (ps.map fun (i, x) => (i, a.eval x)) = some arr' ∧ Rel n Lc m0 m1 l' arr' := by
  induction hp with
  | nil => intro l l' arr h e; cases e; exact ⟨arr, rfl, h⟩
  | @cons i off sz x y ps qs h1 h2 _ ih =>
    intro l l' arr h e
    have hc := (opd_ok hs h2).cells_
    simp only [fillV] at e
    split at e
    · rename_i hb
      obtain ⟨b1, b2⟩ := hb
      have hr := laid_rel h hc (off := off) (by omega)
      rw [b1] at hr
      obtain ⟨arr', g1, g2⟩ := ih hr e
      refine ⟨arr', ?_, g2⟩
      have hsz : (a.eval x).cells.size = sz := by rw [← hc.1, b1]
      have hle : ¬ (off + sz > arr.size) := by have := h.1; omega
      simp only [List.map_cons, Instr.fill, h1, hsz]
      simpa [hle] using g1
    · cases e

theorem parts_map (a : Act) (parts : Array (Nat × Operand)) : (parts.map fun (i, x) => (i, a.eval x)).toList = parts.toList.map fun (i, x) => (i, a.eval x) := by simp

theorem partsS_ok {fs : Array Field} {places : List (Nat × Nat)} (hpl : fs.toList.mapM (fun f => (P.info? f.type).map fun i => (f.offset, i.size)) = some places) :
    ∀ {ps : List (Nat × Operand)} {qs : List (Nat × Nat × Opd)}, partsS P fs ps = some qs → Parts (places.toArray[·]?) ps qs
  | [], qs, h => by cases h; exact .nil
  | (i, x) :: ps, qs, h => by
    unfold partsS at h
    split at h
    · rename_i f y l hf hy hl
      split at h
      · rename_i j hj
        cases h
        refine .cons ?_ hy (partsS_ok hpl hl)
        have key : ∀ (fs : List Field) (places : List (Nat × Nat)) (i : Nat), fs.mapM (fun f => (P.info? f.type).map fun i => (f.offset, i.size)) = some places → fs[i]? = some f → places[i]? = some (f.offset, j.size) := by
          intro fs
          induction fs with
          | nil => intro _ i _ h; simp at h
          | cons g gs ih =>
            intro places i h1 h2
            simp only [List.mapM_cons, Option.bind_eq_bind, Option.bind_eq_some_iff, Option.pure_def, Option.some.injEq] at h1
            obtain ⟨p, hp, ps, hps, rfl⟩ := h1
            cases i with
            | zero => simp at h2; subst h2; rw [hj] at hp; simpa using hp.symm
            | succ i => simpa using ih ps i hps (by simpa using h2)
        simpa using key fs.toList places i hpl (by simpa using hf)
      · cases h
    · cases h
theorem partsE_ok {sz : Nat} : ∀ {ps : List (Nat × Operand)} {qs : List (Nat × Nat × Opd)}, partsE sz ps = some qs → Parts (fun i => some (i * sz, sz)) ps qs
  | [], qs, h => by cases h; exact .nil
  | (i, x) :: ps, qs, h => by
    unfold partsE at h
    split at h
    · rename_i y l hy hl
      cases h
      exact .cons rfl hy (partsE_ok hl)
    · cases h

theorem zero_rel {t : TypeId} {z : List V} (h : zeroT P t = some z) : ∃ (i : TypeInfo) (zv : Value), P.info? t = some i ∧ i.zero = some zv ∧ zv.cells.size = i.size ∧ z.length = i.size ∧ Rel n Lc m0 m1 z zv.cells ∧ z.all V.leaf = true ∧ z = zv.cells.toList.map .lit := by
  obtain ⟨i, zv, h1, h2, h3, rfl, h5, _⟩ := zero_ok h
  exact ⟨i, zv, h1, h2, h3, by simp [h3], lits_rel _, h5, rfl⟩

theorem ok_buildS {t : TypeId} {parts : Array (Nat × Operand)} {fs : Array Field} {z : List V} {qs : List (Nat × Nat × Opd)} (hop : o.op = .build t parts) (hu : P.underlying t = some (.struct fs)) (hall : fs.toList.all (fun f => (P.info? f.type).isSome) = true)
    (hz : zeroT P t = some z) (hq : partsS P fs parts.toList = some qs) (hm : MemR n Lc m0 m1 H w) (hs : SR n Lc m0 m1 s a) (he : evI (.build z qs) s H = some (v, H')) : H' = H ∧ Ok1 P o a w n Lc m0 m1 v H := by
  simp only [evI] at he
  obtain ⟨l, hl, e⟩ := Option.map_eq_some_iff.1 he
  cases e
  obtain ⟨i, zv, h1, h2, h3, h4, h5, h6, _⟩ := zero_rel (n := n) (Lc := Lc) (m0 := m0) (m1 := m1) hz
  have hpl : ∃ places, fs.toList.mapM (fun f => (P.info? f.type).map fun i => (f.offset, i.size)) = some places := by
    revert hall
    generalize fs.toList = gs
    intro hall
    induction gs with
    | nil => exact ⟨[], rfl⟩
    | cons g gs ih =>
      simp only [List.all_cons, Bool.and_eq_true] at hall
      obtain ⟨ps, hps⟩ := ih hall.2
      obtain ⟨j, hj⟩ := Option.isSome_iff_exists.1 hall.1
      exact ⟨(g.offset, j.size) :: ps, by simp [List.mapM_cons, hj, hps]⟩
  obtain ⟨places, hpl⟩ := hpl
  obtain ⟨arr', g1, g2⟩ := fill_ok hs (partsS_ok hpl hq) h5 hl
  have hb : P.built t ((parts.map fun (i, x) => (i, a.eval x)).toList) = some arr' := by
    rw [parts_map]
    simp only [Program.built, h1, hu, h2, hpl]
    exact g1
  have hr := run_build (P := P) w t (parts.map fun (i, x) => (i, a.eval x)) arr' hb
  refine ⟨rfl, .same hm (x := .agg arr') ?_ (.agg _ _ g2.1 g2.2)⟩
  simp only [execOp, hop, Sem.run_bind, hr, Result.andThen_ok, Sem.run_pure]
theorem ok_buildA {t e : TypeId} {m : Nat} {parts : Array (Nat × Operand)} {ti : TypeInfo} {z : List V} {qs : List (Nat × Nat × Opd)} (hop : o.op = .build t parts) (hu : P.underlying t = some (.array m e)) (hti : P.info? e = some ti)
    (hz : zeroT P t = some z) (hq : partsE ti.size parts.toList = some qs) (hm : MemR n Lc m0 m1 H w) (hs : SR n Lc m0 m1 s a) (he : evI (.build z qs) s H = some (v, H')) : H' = H ∧ Ok1 P o a w n Lc m0 m1 v H := by
  simp only [evI] at he
  obtain ⟨l, hl, e⟩ := Option.map_eq_some_iff.1 he
  cases e
  obtain ⟨i, zv, h1, h2, h3, h4, h5, h6, _⟩ := zero_rel (n := n) (Lc := Lc) (m0 := m0) (m1 := m1) hz
  obtain ⟨arr', g1, g2⟩ := fill_ok hs (partsE_ok hq) h5 hl
  have hb : P.built t ((parts.map fun (i, x) => (i, a.eval x)).toList) = some arr' := by
    rw [parts_map]
    simp only [Program.built, h1, hu, h2, hti]
    exact g1
  have hr := run_build (P := P) w t (parts.map fun (i, x) => (i, a.eval x)) arr' hb
  refine ⟨rfl, .same hm (x := .agg arr') ?_ (.agg _ _ g2.1 g2.2)⟩
  simp only [execOp, hop, Sem.run_bind, hr, Result.andThen_ok, Sem.run_pure]

/-- A row of zero values. -/
theorem made_rel {z : List V} {zv : Array Value} (h : Rel n Lc m0 m1 z zv) (hz : z = zv.toList.map .lit) (k : Nat) (hp : 0 < zv.size) : Rel n Lc m0 m1 ((List.replicate k z).flatten) ((Array.range (k * zv.size)).map (zv[· % zv.size]!)) := by
  have hlen : ((List.replicate k z).flatten).length = k * zv.size := by rw [← h.1]; simp
  refine ⟨by rw [hlen]; simp, fun j hj hj' => ?_⟩
  have hget : ∀ (k j : Nat) (hj : j < ((List.replicate k z).flatten).length), ((List.replicate k z).flatten)[j] = z[j % zv.size]'(by rw [h.1]; exact Nat.mod_lt _ hp) := by
    intro k
    induction k with
    | zero => intro j hj; simp at hj
    | succ k ih =>
      intro j hj
      simp only [List.replicate_succ, List.flatten_cons]
      by_cases c : j < z.length
      · rw [List.getElem_append_left c]; congr 1; rw [Nat.mod_eq_of_lt (by rw [← h.1]; exact c)]
      · have hz1 := h.1
        have e : (j - z.length) % zv.size = j % zv.size := by rw [hz1]; exact (Nat.mod_eq_sub_mod (by omega)).symm
        rw [List.getElem_append_right (by omega), ih]
        simp only [e]
  rw [hget]
  have hlt : j % zv.size < zv.size := Nat.mod_lt _ hp
  simp only [Array.getElem_map, Array.getElem_range]
  rw [getElem!_pos zv (j % zv.size) hlt]
  exact h.2 _ _ hlt
theorem rep_leaf {z : List V} (h : z.all V.leaf = true) (k : Nat) : ((List.replicate k z).flatten).all V.leaf = true := by
  rw [List.all_eq_true] at h ⊢
  intro x hx
  obtain ⟨l, h1, h2⟩ := List.mem_flatten.1 hx
  rw [(List.mem_replicate.1 h1).2] at h2
  exact h x h2

theorem ok_bsl {t e : TypeId} {m sz by_ : Nat} {parts : Array (Nat × Operand)} {z : List V} {qs : List (Nat × Nat × Opd)} (hop : o.op = .buildSlice t m parts) (ht : sliceT P t = some (e, sz, by_)) (hsm : m * sz ≤ 2 ^ 24) (hpos : 0 < m)
    (hz : zeroT P e = some z) (hq : partsE sz parts.toList = some qs) (hm : MemR n Lc m0 m1 H w) (hs : SR n Lc m0 m1 s a) (he : evI (.bsl e sz m z qs) s H = some (v, H')) : Ok1 P o a w n Lc m0 m1 v H' := by
  obtain ⟨ti, hu, hti, rfl, rfl, hp1, _⟩ := sliceT_ok ht
  obtain ⟨i, zv, h1, h2, h3, h4, h5, h6, h7⟩ := zero_rel (n := n) (Lc := Lc) (m0 := m0) (m1 := m1) hz
  rw [hti] at h1; cases h1
  simp only [evI] at he
  split at he
  · rename_i l hl
    split at he <;> cases he
    rename_i hall
    have hmr := made_rel h5 h7 m (by omega)
    rw [h3] at hmr
    obtain ⟨arr', g1, g2⟩ := fill_ok hs (partsE_ok hq) hmr hl
    rw [← parts_map] at g1
    have hr := run_buildSlice (P := P) w t e m (parts.map fun (i, x) => (i, a.eval x)) arr' ti zv hu hti h2 (by omega) (Nat.pos_iff_ne_zero.1 (Nat.mul_pos hpos hp1)) (by rw [h3]; exact g1)
    have hsz : l.length = m * ti.size := by
      have : ∀ (qs : List (Nat × Nat × Opd)) (l l' : List V), fillV s l qs = some l' → l'.length = l.length := by
        intro qs
        induction qs with
        | nil => intro l l' h; cases h; rfl
        | cons q qs ih =>
          obtain ⟨off, sz, x⟩ := q
          intro l l' h
          simp only [fillV] at h
          split at h
          · rename_i hb
            rw [ih _ _ h]; simp; omega
          · cases h
      rw [this _ _ _ hl]; simp [h4]
    have hcap : m ≤ maxLen := by
      have : m ≤ m * ti.size := Nat.le_mul_of_pos_right _ hp1
      simp only [maxLen]; omega
    exact .newRow hm (t := e) (sz := ti.size) (len := m) (cap := m) (by simp only [execOp, hop, Sem.run_bind, hr, Result.andThen_ok, Sem.run_pure]) g2.1 hp1 (by rw [← g2.1]; exact hsz) (Nat.le_refl _) hcap g2.2 hall
  · cases he

theorem ok_bsz {t e : TypeId} {sz by_ : Nat} {parts : Array (Nat × Operand)} (hop : o.op = .buildSlice t 0 parts) (hp : parts.size = 0) (ht : sliceT P t = some (e, sz, by_)) (hm : MemR n Lc m0 m1 H w) (he : evI (.bsz e sz) s H = some (v, H')) : Ok1 P o a w n Lc m0 m1 v H' := by
  obtain ⟨ti, hu, hti, rfl, rfl, hp1, _⟩ := sliceT_ok ht
  simp only [evI] at he
  cases he
  have hparts : parts = #[] := Array.eq_empty_of_size_eq_zero hp
  subst hparts
  have hr : (Instr.buildSlice t 0 #[]).run P w = .ok (.slice (some ⟨w.heap.size, 0, none⟩) 0 0) (w.alloc (.cells #[] e)) := by
    simp [Instr.buildSlice, run_underlying hu, sizeOf, typeInfo, hti, Instr.fill, newRow]
    rw [show Array.range 0 = #[] from Array.range_zero']
    simp
  obtain ⟨h1, h2⟩ := hm.alloc (l := []) (arr := #[]) (t := e) (z := ti.size) (cap := 0) hp1 (by simp) (by simp [maxLen]) (by simp) (fun j hj => by simp at hj)
  exact ⟨.value (.slice (some ⟨w.heap.size, 0, none⟩) 0 0), _, _, _, by simp only [execOp, hop]; simp [hr], .inr ⟨_, rfl, .fr (.zsl _ _)⟩, h1, h2⟩

theorem ok_iaa {t e : TypeId} {k : Nat} {ti : TypeInfo} {x y : Operand} {x' y' : Opd} (hop : o.op = .indexAddr t x y) (hm : MemR n Lc m0 m1 H w) (hs : SR n Lc m0 m1 s a) (hx : opd x = some x') (hy : opd y = some y') (hu : P.underlying t = some (.array k e)) (hti : P.info? e = some ti)
    (he : evI (.iaa ti.size k x' y') s H = some (v, H')) : H' = H ∧ Ok1 P o a w n Lc m0 m1 v H := by
  have hv := opd_ok hs hx
  have hi := opd_ok hs hy
  have hrun : ∀ A kd (q : Int), a.eval x = .pointer (some A) → a.eval y = .int kd q → 0 ≤ q → q < k → (execOp a.eval o).run P w = .ok (.value (.pointer (some (A.add (q.toNat * ti.size))))) w := fun A kd q h1 h2 h3 h4 => by
    simp [execOp, hop, Instr.indexAt, Instr.sureAddr, asIntOf, h2, run_underlying hu, h1, h3, h4, sizeOf, typeInfo, hti]
  simp only [evI] at he
  split at he <;> try cases he
  rename_i kd q ey
  rw [ey] at hi
  have hi := hi.lit_inv
  split at he <;> try cases he
  rename_i hb
  split at he <;> cases he
  · rename_i h off ex
    rw [ex] at hv
    obtain ⟨hp, hh⟩ := hv.optr_inv
    refine ⟨rfl, .same hm (hrun _ _ _ hp hi hb.1 hb.2) ?_⟩
    rw [Addr.add_lit]
    exact .optr _ _ hh
  · rename_i b l off ex
    rw [ex] at hv
    obtain ⟨B, o', vs, hp, hr, hfr⟩ := hv.fptr_inv
    refine ⟨rfl, .same hm (hrun _ _ _ hp hi hb.1 hb.2) ?_⟩
    rw [Addr.add_lit, Nat.add_assoc]
    exact .fr (.fptr _ _ _ _ _ _ vs (fun _ => rfl) hr hfr)

theorem run_call {c : Call} {b : Builtin} (hop : o.op = .call c) (hcal : c.callee = .builtin b) :
    ∃ cs, (execOp a.eval o).run P w = (builtin b c.argTypes o.type cs (c.args.map a.eval)).run P w := by
  simp only [execOp, hop, resolve, hcal, invoke, Sem.run_bind, Sem.run_pure, Result.andThen_ok]
  exact ⟨_, rfl⟩
theorem args1 {c : Call} {x : Operand} (h : c.args.toList = [x]) : c.args.map a.eval = #[a.eval x] := by
  have : c.args = #[x] := by rw [← Array.toArray_toList (xs := c.args), h]
  rw [this]; simp
theorem args2 {c : Call} {x y : Operand} (h : c.args.toList = [x, y]) : c.args.map a.eval = #[a.eval x, a.eval y] := by
  have : c.args = #[x, y] := by rw [← Array.toArray_toList (xs := c.args), h]
  rw [this]; simp
theorem types1 {c : Call} {x : TypeId} (h : c.argTypes.toList = [x]) : c.argTypes = #[x] := by rw [← Array.toArray_toList (xs := c.argTypes), h]
theorem types2 {c : Call} {x y : TypeId} (h : c.argTypes.toList = [x, y]) : c.argTypes = #[x, y] := by rw [← Array.toArray_toList (xs := c.argTypes), h]
theorem elem_of {t e : TypeId} (h : P.underlying t = some (.slice e)) : P.elem t = e := by simp [Program.elem, h]

theorem lenV_ok {u : V} {x : Value} {k : Nat} (h : lenV u = some k) (hv : VR n Lc m0 m1 u x) : ∃ A cap, x = .slice A k cap ∧ k ≤ cap := by
  unfold lenV at h
  split at h <;> cases h
  · exact ⟨none, 0, hv.lit_inv, Nat.le_refl _⟩
  · obtain ⟨A, rfl⟩ := hv.zsl_inv; exact ⟨A, 0, rfl, Nat.le_refl _⟩
  · obtain ⟨cap, hp, _, hc, _⟩ := hv.osl_inv; exact ⟨_, cap, hp, hc⟩
  · obtain ⟨A, cap, B, o', vs, hp, hc, _⟩ := hv.fsl_inv; exact ⟨_, cap, hp, hc⟩

theorem ok_len {t e : TypeId} {x : Operand} {y : Opd} {c : Call} (hop : o.op = .call c) (hcal : c.callee = .builtin .len) (hargs : c.args.toList = [x]) (hts : c.argTypes.toList = [t]) (ht : P.underlying t = some (.slice e))
    (hm : MemR n Lc m0 m1 H w) (hs : SR n Lc m0 m1 s a) (hx : opd x = some y) (he : evI (.len y) s H = some (v, H')) : H' = H ∧ Ok1 P o a w n Lc m0 m1 v H := by
  have hv := opd_ok hs hx
  simp only [evI] at he
  obtain ⟨k, hk, e2⟩ := Option.map_eq_some_iff.1 he
  cases e2
  obtain ⟨A, cap, hp, _⟩ := lenV_ok hk hv
  refine ⟨rfl, .same hm (x := .int .i64 k) ?_ .lit_⟩
  obtain ⟨cs, hc⟩ := run_call (P := P) (w := w) (a := a) hop hcal
  rw [hc, args1 hargs, types1 hts, hp]
  simp [builtin, Builtin.len_, run_underlying ht, goInt]
theorem ok_slen {t : TypeId} {x : Operand} {y : Opd} {c : Call} (hop : o.op = .call c) (hcal : c.callee = .builtin .len) (hargs : c.args.toList = [x]) (hts : c.argTypes.toList = [t]) (ht : P.underlying t = some .string)
    (hm : MemR n Lc m0 m1 H w) (hs : SR n Lc m0 m1 s a) (hx : opd x = some y) (he : evI (.slen y) s H = some (v, H')) : H' = H ∧ Ok1 P o a w n Lc m0 m1 v H := by
  have hv := opd_ok hs hx
  simp only [evI] at he
  split at he <;> cases he
  rename_i q e
  rw [e] at hv
  have hp := hv.lit_inv
  refine ⟨rfl, .same hm (x := .int .i64 q.size) ?_ .lit_⟩
  obtain ⟨cs, hc⟩ := run_call (P := P) (w := w) (a := a) hop hcal
  rw [hc, args1 hargs, types1 hts, hp]
  simp [builtin, Builtin.len_, run_underlying ht, goInt]
theorem ok_cap {t e : TypeId} {x : Operand} {y : Opd} {c : Call} (hop : o.op = .call c) (hcal : c.callee = .builtin .cap) (hargs : c.args.toList = [x]) (hts : c.argTypes.toList = [t]) (ht : P.underlying t = some (.slice e))
    (hm : MemR n Lc m0 m1 H w) (hs : SR n Lc m0 m1 s a) (hx : opd x = some y) (he : evI (.cap y) s H = some (v, H')) : H' = H ∧ Ok1 P o a w n Lc m0 m1 v H := by
  have hv := opd_ok hs hx
  have key : ∀ A k, a.eval x = .slice A k 0 → Ok1 P o a w n Lc m0 m1 (.int 0) H := fun A k hp => by
    refine .same hm (x := .int .i64 0) ?_ .lit_
    obtain ⟨cs, hc⟩ := run_call (P := P) (w := w) (a := a) hop hcal
    rw [hc, args1 hargs, types1 hts, hp]
    simp [builtin, Builtin.cap_, run_underlying ht, goInt]
  simp only [evI] at he
  split at he <;> cases he <;> rename_i e <;> rw [e] at hv
  · exact ⟨rfl, key _ _ hv.lit_inv⟩
  · obtain ⟨A, hp⟩ := hv.zsl_inv; exact ⟨rfl, key _ _ hp⟩

theorem ok_mk {t e : TypeId} {sz by_ : Nat} {x y : Operand} {x' y' : Opd} {z : List V} (hop : o.op = .makeSlice t x y) (ht : sliceT P t = some (e, sz, by_)) (hz : zeroT P e = some z)
    (hm : MemR n Lc m0 m1 H w) (hs : SR n Lc m0 m1 s a) (hx : opd x = some x') (hy : opd y = some y') (he : evI (.mk e sz by_ z x' y') s H = some (v, H')) : Ok1 P o a w n Lc m0 m1 v H' := by
  obtain ⟨ti, hu, hti, rfl, rfl, hp1, hp2⟩ := sliceT_ok ht
  obtain ⟨i, zv, h1, h2, h3, h4, h5, h6, h7⟩ := zero_rel (n := n) (Lc := Lc) (m0 := m0) (m1 := m1) hz
  rw [hti] at h1; cases h1
  have hxv := opd_ok hs hx
  have hyv := opd_ok hs hy
  simp only [evI] at he
  split at he <;> try cases he
  rename_i p q ex ey
  rw [ex] at hxv
  rw [ey] at hyv
  have hxv := hxv.lit_inv
  have hyv := hyv.lit_inv
  split at he <;> cases he
  rename_i hb
  obtain ⟨b1, b2, b3⟩ := hb
  have hq : q ≤ 140737488355328 := by
    have : q * 1 ≤ q * ti.bytes := Int.mul_le_mul_of_nonneg_left (by omega) (by omega)
    omega
  have hr := run_make (P := P) w t e ti zv hu hti h2 .i64 .i64 p q b1 b2 (by rw [Int.mul_comm]; omega) (by omega)
  have hmr := made_rel h5 h7 q.toNat (by omega)
  rw [h3] at hmr
  have hme : madeCells zv.cells (q.toNat * ti.size) = (Array.range (q.toNat * ti.size)).map (zv.cells[· % ti.size]!) := by simp only [madeCells, h3]
  refine .newRow hm (t := e) (sz := ti.size) (len := p.toNat) (cap := q.toNat) (arr := madeCells zv.cells (q.toNat * ti.size)) (by simp only [execOp, hop, hxv, hyv, Sem.run_bind, hr, Result.andThen_ok, Sem.run_pure]) (by rw [hme]; exact hmr.1) hp1 (by rw [size_madeCells]) (by omega) (by simp only [maxLen]; omega) (fun j hj hj' => ?_) (rep_leaf h6 _)
  have := hmr.2 j hj (by rw [← hmr.1]; exact hj)
  simp only [hme]
  exact this

theorem opdO_ok (hs : SR n Lc m0 m1 s a) {x : Option Operand} {y : Option Opd} (h : opdO x = some y) {d q : Int} (ho : optI s d y = some q) : x = none ∧ y = none ∧ q = d ∨ ∃ z k, x = some z ∧ a.eval z = .int k q := by
  unfold opdO at h
  split at h
  · cases h; cases ho; exact .inl ⟨rfl, rfl, rfl⟩
  · rename_i z
    obtain ⟨y', hy, rfl⟩ := Option.map_eq_some_iff.1 h
    have hv := opd_ok hs hy
    unfold optI at ho
    split at ho
    · rename_i e; cases e
    · rename_i y2 e
      cases e
      split at ho <;> cases ho
      rename_i k q' e
      rw [e] at hv
      exact .inr ⟨z, _, rfl, hv.lit_inv⟩

theorem bounds_ok {lo hi : Option Operand} {len cap : Nat} {p q : Int} (b : Bool) (hlo : lo = none ∧ p = 0 ∨ ∃ z k, lo = some z ∧ a.eval z = .int k p) (hhi : hi = none ∧ q = len ∨ ∃ z k, hi = some z ∧ a.eval z = .int k q)
    (h1 : 0 ≤ p) (h2 : p ≤ q) (h3 : q ≤ len) (h4 : len ≤ cap) : (Instr.sliceBounds b len cap (lo.map a.eval) (hi.map a.eval) none).run P w = .ok (p.toNat, q.toNat, cap) w := by
  have eq : (q.toNat : Int) = q := Int.toNat_of_nonneg (by omega)
  rcases hlo with ⟨rfl, rfl⟩ | ⟨z, k, rfl, hz⟩ <;> rcases hhi with ⟨rfl, rfl⟩ | ⟨z', k', rfl, hz'⟩
  · simp [Instr.sliceBounds]
  · simp [Instr.sliceBounds, hz', run_sliceBound _ _ _ _ _ (by omega : 0 ≤ q) (by omega : q ≤ cap)]
  · simp [Instr.sliceBounds, hz, run_sliceBound _ _ _ _ _ h1 h2]
  · simp [Instr.sliceBounds, hz, hz', run_sliceBound _ _ _ _ _ (by omega : 0 ≤ q) (by omega : q ≤ cap), run_sliceBound _ _ _ _ _ h1 (by omega : p ≤ (q.toNat : Int))]

theorem ok_slc {t e : TypeId} {x : Operand} {lo hi mx : Option Operand} {y : Opd} {lo' hi' mx' : Option Opd} {ti : TypeInfo} (hop : o.op = .slice t x lo hi mx) (ht : P.underlying t = some (.slice e)) (hti : P.info? e = some ti)
    (hm : MemR n Lc m0 m1 H w) (hs : SR n Lc m0 m1 s a) (hx : opd x = some y) (hlo : opdO lo = some lo') (hhi : opdO hi = some hi') (hmx : opdO mx = some mx') (he : evI (.slc ti.size y lo' hi' mx') s H = some (v, H')) : H' = H ∧ Ok1 P o a w n Lc m0 m1 v H := by
  have hv := opd_ok hs hx
  have hel := elem_of ht
  have ht' : P.underlying t = some (.slice (P.elem t)) := by rw [hel]; exact ht
  have hsz : (sizeOf (P.elem t)).run P w = .ok ti.size w := by simp [hel, sizeOf, typeInfo, hti]
  have hrun : ∀ A len cap r, a.eval x = .slice A len cap → (Instr.sliceBounds true len cap (lo.map a.eval) (hi.map a.eval) (mx.map a.eval)).run P w = .ok r w → (execOp a.eval o).run P w = .ok (.value (sliced A r.1 r.2.1 r.2.2 ti.size)) w := fun A len cap r h1 h2 => by
    simp only [execOp, hop, h1, Sem.run_bind, run_sliceAt_slice w t _ _ _ _ ht', run_slice_any w t A len cap ht', h2, Result.andThen_ok, hsz, Sem.run_pure]
  cases mx' with
  | some m =>
    simp only [evI] at he
    split at he <;> try cases he
    rename_i k e1 e2 e3
    split at he <;> try cases he
    rename_i len hlen
    obtain ⟨A, cap, hp, hc⟩ := lenV_ok hlen hv
    have hmx0 : ∃ z, mx = some z ∧ opd z = some m := by
      unfold opdO at hmx
      split at hmx
      · cases hmx
      · rename_i z
        obtain ⟨y', hy, e⟩ := Option.map_eq_some_iff.1 hmx
        cases e; exact ⟨z, rfl, hy⟩
    obtain ⟨zm, rfl, hzm⟩ := hmx0
    have hmv := opd_ok hs hzm
    rw [e3] at hmv
    have hmv := hmv.lit_inv
    have hhi0 : ∃ z k, hi = some z ∧ a.eval z = .int k 0 := by
      rcases opdO_ok hs hhi e2 with ⟨_, _, h⟩ | h
      · cases h
      · exact h
    obtain ⟨zh, kh, rfl, hzh⟩ := hhi0
    have hb : (Instr.sliceBounds true len cap (lo.map a.eval) (some (a.eval zh)) (some (a.eval zm))).run P w = .ok (0, 0, 0) w := by
      rcases opdO_ok hs hlo e1 with ⟨rfl, _, _⟩ | ⟨zl, kl, rfl, hzl⟩
      · simp [Instr.sliceBounds, hmv, hzh, run_sliceBound _ _ _ _ _ (Int.le_refl 0) (by omega : (0 : Int) ≤ cap), run_sliceBound _ _ _ _ _ (Int.le_refl 0) (by omega : (0 : Int) ≤ (0 : Nat))]
      · simp [Instr.sliceBounds, hmv, hzh, hzl, run_sliceBound _ _ _ _ _ (Int.le_refl 0) (by omega : (0 : Int) ≤ cap), run_sliceBound _ _ _ _ _ (Int.le_refl 0) (by omega : (0 : Int) ≤ (0 : Nat))]
    have hr := hrun A len cap _ hp hb
    simp only [sliced] at hr
    split at he
    · rename_i ex
      cases he
      rw [ex] at hv
      have := hv.lit_inv
      rw [hp] at this
      cases this
      exact ⟨rfl, .same hm hr .lit_⟩
    · cases he
    · cases he
      exact ⟨rfl, .same hm hr (.fr (.zsl _ _))⟩
  | none =>
    have hmx0 : mx = none := by
      unfold opdO at hmx
      split at hmx
      · rfl
      · rename_i z
        obtain ⟨y', hy, e⟩ := Option.map_eq_some_iff.1 hmx
        cases e
    subst hmx0
    simp only [evI] at he
    split at he <;> try cases he
    rename_i len hlen
    split at he <;> try cases he
    rename_i p q e1 e2
    split at he <;> try cases he
    rename_i hb
    obtain ⟨b1, b2, b3⟩ := hb
    have run : ∀ A cap, a.eval x = .slice A len cap → len ≤ cap → (execOp a.eval o).run P w = .ok (.value (sliced A p.toNat q.toNat cap ti.size)) w := fun A cap h1 h2 =>
      hrun A len cap (p.toNat, q.toNat, cap) h1 (bounds_ok (P := P) (w := w) true (by rcases opdO_ok hs hlo e1 with ⟨h, _, h'⟩ | h; exact .inl ⟨h, h'⟩; exact .inr h) (by rcases opdO_ok hs hhi e2 with ⟨h, _, h'⟩ | h; exact .inl ⟨h, h'⟩; exact .inr h) b1 b2 b3 h2)
    split at he
    · rename_i lv ex
      cases he
      rw [ex] at hlen hv
      unfold lenV at hlen
      split at hlen <;> cases hlen
      · rename_i e4; cases e4
        have := run none 0 hv.lit_inv (Nat.le_refl _)
        have hp0 : p = 0 := by omega
        have hq0 : q = 0 := by omega
        subst hp0; subst hq0
        exact ⟨rfl, .same hm this .lit_⟩
      all_goals (rename_i e4; cases e4)
    · rename_i ex
      cases he
      rw [ex] at hlen hv
      obtain ⟨A, hp⟩ := hv.zsl_inv
      cases hlen
      have := run A 0 hp (Nat.le_refl _)
      have hp0 : p = 0 := by omega
      have hq0 : q = 0 := by omega
      subst hp0; subst hq0
      exact ⟨rfl, .same hm this (.fr (.zsl _ _))⟩
    · rename_i h off len' ex
      rw [ex] at hlen hv
      cases hlen
      obtain ⟨cap, hp, hh, hc, hcc⟩ := hv.osl_inv
      have hr := run _ cap hp hc
      split at he
      · rename_i hab
        cases he
        refine ⟨rfl, .same hm hr ?_⟩
        obtain ⟨rfl, _⟩ := hab
        simp only [sliced, Nat.sub_self]
        exact .fr (.fsl _ _ [] 0 _ _ 0 0 (fun _ => .nilIface) (fun _ => rfl) (Nat.zero_le _) (fun h => absurd rfl h) (fun j h => by simp at h) (fun j h => by simp at h))
      · rename_i hab
        split at he <;> cases he
        rename_i hsz0
        refine ⟨rfl, .same hm hr ?_⟩
        have e5 : (q - p).toNat = q.toNat - p.toNat := by omega
        simp only [sliced, e5]
        have hA : (if cap = p.toNat then some (⟨(Lc h).blk, off, none⟩ : Addr) else (some (⟨(Lc h).blk, off, none⟩ : Addr)).map (·.add (p.toNat * ti.size))) = some ⟨(Lc h).blk, off + p.toNat * ti.size, none⟩ := by
          split
          · have : p.toNat = 0 := by
              by_cases h0 : p = 0
              · omega
              · have : p ≠ q := fun e => hab ⟨e, h0⟩
                omega
            rw [this]; simp
          · simp [Addr.add_lit]
        rw [hA]
        refine .osl _ _ _ _ hh (by omega) ?_
        rcases hsz0 with h0 | h0
        · subst h0; simpa using hcc
        · have hz : (Lc h).sz = ti.size := by
            unfold szO getO at h0
            split at h0
            · rename_i l2 t2 z2 ho
              rw [(hm.own h _ _ _ ho).1]; simpa using h0
            · cases h0
          rw [← hcc, hz, Nat.add_assoc, ← Nat.add_mul]
          congr 2
          omega
    · rename_i b l len' ex
      split at he <;> cases he
      rename_i hl
      rw [ex] at hlen hv
      cases hlen
      obtain ⟨A, cap, B, o', vs, hp, hc, hA, hr, hfr⟩ := hv.fsl_inv
      have hrr := run _ cap hp hc
      refine ⟨rfl, .same hm hrr ?_⟩
      have e5 : (q - p).toNat = q.toNat - p.toNat := by omega
      simp only [sliced, e5]
      refine .fr (.fsl _ _ _ _ _ _ B (o' + p.toNat * ti.size) (fun j => vs (p.toNat * ti.size + j)) (fun _ => rfl) (by omega) (fun hne => ?_) (fun j hj => ?_) (fun j hj => ?_))
      · have hlt : p.toNat < q.toNat := by
          rcases Nat.lt_or_ge p.toNat q.toNat with h | h
          · exact h
          · have : q.toNat - p.toNat = 0 := by omega
            rw [this] at hne; simp at hne
        have hll : l ≠ [] := fun e => by subst e; simp at hne
        rw [if_neg (by omega), hA hll]
        simp [Addr.add_lit]
      · have hj' : p.toNat * ti.size + j < l.length := by simp at hj; omega
        have := hr _ hj'
        rw [← Nat.add_assoc] at this
        exact this
      · have hj' : p.toNat * ti.size + j < l.length := by simp at hj; omega
        simp only [List.getElem_take, List.getElem_drop]
        exact hfr _ hj'
    · cases he

theorem ok_sls {t : TypeId} {x : Operand} {lo hi : Option Operand} {y : Opd} {lo' hi' : Option Opd} (hop : o.op = .slice t x lo hi none) (ht : P.underlying t = some .string)
    (hm : MemR n Lc m0 m1 H w) (hs : SR n Lc m0 m1 s a) (hx : opd x = some y) (hlo : opdO lo = some lo') (hhi : opdO hi = some hi') (he : evI (.sls y lo' hi') s H = some (v, H')) : H' = H ∧ Ok1 P o a w n Lc m0 m1 v H := by
  have hv := opd_ok hs hx
  simp only [evI] at he
  split at he <;> try cases he
  rename_i q ex
  rw [ex] at hv
  have hp := hv.lit_inv
  split at he <;> try cases he
  rename_i p r e1 e2
  split at he <;> cases he
  rename_i hb
  obtain ⟨b1, b2, b3⟩ := hb
  have hbo := bounds_ok (P := P) (w := w) (cap := q.size) false (by rcases opdO_ok hs hlo e1 with ⟨h, _, h'⟩ | h; exact .inl ⟨h, h'⟩; exact .inr h) (by rcases opdO_ok hs hhi e2 with ⟨h, _, h'⟩ | h; exact .inl ⟨h, h'⟩; exact .inr h) b1 b2 b3 (Nat.le_refl _)
  refine ⟨rfl, .same hm (x := .string (q.extract p.toNat r.toNat)) ?_ .lit_⟩
  have key : (Instr.slice t (.string q) (lo.map a.eval) (hi.map a.eval) none).run P w = .ok (.string (q.extract p.toNat r.toNat)) w := by
    simp [Instr.slice, run_underlying ht, hbo]
  simp only [execOp, hop, hp, Sem.run_bind, run_sliceAt_string w t _ _ _ _ ht, Option.map_none, key, Result.andThen_ok, Sem.run_pure]

theorem ok_ext {x : Operand} {y : Opd} {k : Nat} (hop : o.op = .extract x k) (hm : MemR n Lc m0 m1 H w) (hs : SR n Lc m0 m1 s a) (hx : opd x = some y) (he : evI (.ext k y) s H = some (v, H')) : H' = H ∧ Ok1 P o a w n Lc m0 m1 v H := by
  have hv := opd_ok hs hx
  simp only [evI] at he
  split at he <;> try cases he
  rename_i l e
  rw [e] at hv
  obtain ⟨u, hu, e2⟩ := Option.map_eq_some_iff.1 he
  cases e2
  obtain ⟨arr, hp, hl, hr⟩ := hv.tup_inv
  obtain ⟨hk, rfl⟩ := List.getElem?_eq_some_iff.1 hu
  exact ⟨rfl, .same hm (x := arr[k]'(by omega)) (by simp [execOp, hop, Instr.extract, hp, Array.getElem?_eq_getElem (show k < arr.size by omega)]) (hr k hk _)⟩

theorem ok_clo {f : FuncId} {caps first : Array Operand} {ys : List Opd} (hop : o.op = .makeFunc (.func f) first caps) (h0 : first.size = 0) (hm : MemR n Lc m0 m1 H w) (hs : SR n Lc m0 m1 s a) (hx : opds caps = some ys) (he : evI (.clo f ys) s H = some (v, H')) : H' = H ∧ Ok1 P o a w n Lc m0 m1 v H := by
  simp only [evI] at he
  cases he
  obtain ⟨h1, h2⟩ := opds_ok hs hx
  have hf : first = #[] := Array.eq_empty_of_size_eq_zero h0
  refine ⟨rfl, .same hm (x := .func (.func f) #[] (caps.map a.eval)) (by simp [execOp, hop, Instr.makeFunc, hf]) (.clo _ _ _ (by simpa using h1) fun j hj hj' => ?_)⟩
  simpa using h2 j (by simpa using hj) (by simpa using hj')
end
end Go.Proofs.Vm
/-! Maps of bools whose keys are whole numbers or structs of whole numbers. -/
namespace Go.Proofs.Vm
open Go

section
variable {P : Program} {n : Nat} {Lc : Nat → Loc} {m0 m1 : Mem} {H H' : List O} {w : World} {s : Nat → V} {a : Act} {o : Oper} {v : V} {i : Ins}

def KeyT (P : Program) (k : TypeId) (c : Nat) : Prop :=
  c = 0 ∧ P.underlying k = some (.int .i64) ∨ 0 < c ∧ plainT P k = true ∧ (P.fieldsOf k).size = c ∧ ∀ f ∈ (P.fieldsOf k).toList, leafT P f.type = some 0
theorem mapT_ok {t : TypeId} {c : Nat} (h : mapT P t = some c) : ∃ k e, P.underlying t = some (.map k e) ∧ (∀ w, (zeroValue e).run P w = .ok (.bool false) w) ∧ KeyT P k c := by
  unfold mapT at h
  split at h
  · rename_i k e hu
    split at h
    · rename_i he hz
      refine ⟨k, e, hu, fun w => ?_, ?_⟩
      · obtain ⟨ti, hti, hz⟩ := Option.bind_eq_some_iff.1 hz
        simp [zeroValue, typeInfo, hti, hz]
      · split at h
        · rename_i hk; cases h; exact .inl ⟨rfl, hk⟩
        · rename_i fs hk
          split at h <;> cases h
          rename_i hc
          have hfs : P.fieldsOf k = fs := by simp [Program.fieldsOf, hk]
          simp only [Bool.and_eq_true, decide_eq_true_eq, List.all_eq_true, beq_iff_eq] at hc
          exact .inr ⟨hc.1.2, hc.1.1, by rw [hfs], by rw [hfs]; exact hc.2⟩
        · cases h
    · cases h
  · cases h

theorem intsV_ok : ∀ {l : List V} {ks : List Int}, intsV l = some ks → l = ks.map fun a => V.int a
  | [], ks, h => by cases h; rfl
  | v :: l, ks, h => by
    unfold intsV at h
    split at h
    · rename_i e; cases e
    · rename_i a l' e
      cases e
      obtain ⟨ks', h1, rfl⟩ := Option.map_eq_some_iff.1 h
      rw [intsV_ok h1]; rfl
    · cases h
theorem keyI_ok {c : Nat} {u : V} {x : Value} {key : List Int} (h : keyI c u = some key) (hv : VR n Lc m0 m1 u x) : x = keyVal c key ∧ key.length = if c = 0 then 1 else c := by
  unfold keyI at h
  split at h
  · cases h; exact ⟨hv.lit_inv, rfl⟩
  · split at h
    · rename_i hl
      have := intsV_ok h
      subst this
      obtain ⟨arr, rfl, h1, h2⟩ := hv.agg_inv
      refine ⟨?_, by simpa using hl⟩
      simp only [keyVal, Nat.add_one_ne_zero, if_false, Value.agg.injEq]
      apply Array.ext
      · simpa using h1.symm
      · intro j q1 q2
        have h3 := h2 j (by simpa using q2) q1
        simp only [List.getElem_map] at h3
        simpa using h3.lit_inv
    · cases h
  · cases h

theorem leaves_ints : ∀ {ks : List Nat} {p q : List Int}, (∀ k ∈ ks, k = 0) → p.length = ks.length → q.length = ks.length → leavesEq ks (p.map fun a => V.int a) (q.map fun a => V.int a) = some (decide (p = q))
  | [], [], [], _, _, _ => rfl
  | k :: ks, a :: p, b :: q, h, h1, h2 => by
    have hk := h k List.mem_cons_self
    subst hk
    simp only [leavesEq, List.map_cons, leafEq, if_true]
    by_cases e : a = b
    · subst e
      simp only [beq_self_eq_true]
      rw [leaves_ints (fun k hk => h k (List.mem_cons_of_mem _ hk)) (by simpa using h1) (by simpa using h2)]
      simp
    · have : (a == b) = false := by simpa using e
      simp only [this]
      simp [e]
theorem equal_key {k : TypeId} {c : Nat} (hk : 0 < c ∧ plainT P k = true ∧ (P.fieldsOf k).size = c ∧ ∀ f ∈ (P.fieldsOf k).toList, leafT P f.type = some 0) {p q : List Int} (hp : p.length = c) (hq : q.length = c) :
    (Op.equal k (keyVal c p) (keyVal c q)).run P w = .ok (decide (p = q)) w := by
  obtain ⟨h0, ht, hc, hall⟩ := hk
  obtain ⟨p1, p2, p3, p4⟩ := plainT_ok ht
  have hne : c ≠ 0 := by omega
  simp only [keyVal, if_neg hne]
  have lit : ∀ l : List Int, (l.map fun a => V.int a).length = ((l.map fun a => Value.int .i64 a).toArray).size ∧ ∀ j (h : j < (l.map fun a => V.int a).length) (h' : j < ((l.map fun a => Value.int .i64 a).toArray).size), VR 0 (fun _ => ⟨0, 0, 0⟩) (fun _ => none) (fun _ => none) (l.map fun a => V.int a)[j] ((l.map fun a => Value.int .i64 a).toArray)[j] := fun l =>
    ⟨by simp, fun j h h' => by simp only [List.getElem_map, List.getElem_toArray]; exact .lit_⟩
  have hleaves := leaves_ints (ks := (P.fieldsOf k).toList.map fun f => (leafT P f.type).getD 3) (p := p) (q := q) (fun x hx => by
    obtain ⟨f, hf, rfl⟩ := List.mem_map.1 hx
    rw [hall f hf]; rfl) (by simp [hp, hc]) (by simp [hq, hc])
  have hf := eqFields_ok (P := P) (w := w) (d := 9998) (lit p).1 (lit q).1 (lit p).2 (lit q).2 (P.fieldsOf k).toList 0 _ (by simp [hp, hc]) (by simp [hq, hc]) p4 hleaves
  exact (run_equalIn_struct w 9999 k _ _ p1 p2).trans hf

def atM (key : List Int) : List (List Int × Bool) → Nat → Option (Nat × Value)
  | [], _ => none
  | (k', b) :: l, i => if k' = key then some (i, .bool b) else atM key l (i + 1)
theorem find_ok {k : TypeId} {c : Nat} (hk : KeyT P k c) {key : List Int} (hkey : key.length = if c = 0 then 1 else c) {L : List MapEntry} {es : List (List Int × Bool)} (hL : L.map (fun e => (e.key, e.val)) = es.map (fun p => (keyVal c p.1, Value.bool p.2)))
    (hes : ∀ p ∈ es, p.1.length = if c = 0 then 1 else c) : (Instr.findKey k (keyVal c key) L).run P w = .ok (atM key es 0) w := by
  rcases hk with ⟨rfl, hk⟩ | hk
  · refine MapKept.run_findKey hk ?_
    have : ∀ (L : List MapEntry) (es : List (List Int × Bool)) (i : Nat), L.map (fun e => (e.key, e.val)) = es.map (fun p => (keyVal 0 p.1, Value.bool p.2)) → (∀ p ∈ es, p.1.length = 1) → Instr.findNow (.int .i64) (keyVal 0 key) L i = some (atM key es i) := by
      intro L
      induction L with
      | nil =>
        intro es i h _
        cases es with
        | nil => rfl
        | cons p es => simp at h
      | cons e L ih =>
        intro es i h hlen
        cases es with
        | nil => simp at h
        | cons p es =>
          simp only [List.map_cons, List.cons.injEq, Prod.mk.injEq] at h
          obtain ⟨⟨h1, h2⟩, h3⟩ := h
          obtain ⟨k', b⟩ := p
          have hk' : ∃ x, k' = [x] := by
            have := hlen _ List.mem_cons_self
            match k', this with
            | [x], _ => exact ⟨x, rfl⟩
          have hk0 : ∃ x, key = [x] := by
            match key, hkey with
            | [x], _ => exact ⟨x, rfl⟩
          obtain ⟨x, rfl⟩ := hk'
          obtain ⟨y, rfl⟩ := hk0
          simp only [Instr.findNow, h1, h2, keyVal, if_true, List.headD_cons, Instr.sameNow, atM]
          by_cases exy : x = y
          · subst exy; simp
          · have : (y == x) = false := by simp; exact fun e => exy e.symm
            simp only [this, List.cons.injEq, exy, and_true, if_false]
            have := ih es (i + 1) h3 fun p hp => hlen p (List.mem_cons_of_mem _ hp)
            simpa [keyVal] using this
    exact this L es 0 hL (by simpa using hes)
  · have hne : c ≠ 0 := by omega
    have hwide : (match P.underlying k with | some (.array _ _) | some (.struct _) => true | _ => false) = true := by rw [(plainT_ok hk.2.1).1]
    rw [run_findKey_eq w hwide]
    have hkey : key.length = c := by simpa [hne] using hkey
    have : ∀ (L : List MapEntry) (es : List (List Int × Bool)) (i : Nat), L.map (fun e => (e.key, e.val)) = es.map (fun p => (keyVal c p.1, Value.bool p.2)) → (∀ p ∈ es, p.1.length = c) → (Instr.findAsking k (keyVal c key) L i).run P w = .ok (atM key es i) w := by
      intro L
      induction L with
      | nil =>
        intro es i h _
        cases es with
        | nil => rfl
        | cons p es => simp at h
      | cons e L ih =>
        intro es i h hlen
        cases es with
        | nil => simp at h
        | cons p es =>
          simp only [List.map_cons, List.cons.injEq, Prod.mk.injEq] at h
          obtain ⟨⟨h1, h2⟩, h3⟩ := h
          have hq := equal_key (w := w) hk hkey (hlen p List.mem_cons_self)
          simp only [Instr.findAsking, Sem.run_bind, h1, h2, hq, Result.andThen_ok, atM]
          by_cases e : p.1 = key
          · rw [if_pos e]; simp [e]
          · rw [if_neg e]
            have e' : ¬ key = p.1 := fun h => e h.symm
            simp only [e', decide_false, Bool.false_eq_true, if_false]
            exact ih es (i + 1) h3 fun p hp => hlen p (List.mem_cons_of_mem _ hp)
    exact this L es 0 hL (by simpa [hne] using hes)

theorem check_ok {k : TypeId} {c : Nat} (hk : KeyT P k c) {key : List Int} (hkey : key.length = if c = 0 then 1 else c) (em : Bool) : (Instr.checkKey em 10000 k (keyVal c key)).run P w = .ok () w := by
  rcases hk with ⟨rfl, hk⟩ | ⟨h0, ht, hc, hall⟩
  · exact MapKept.run_checkKey hk (by simp [keyVal, MapKept.IsKey]) em 9999
  · have hne : c ≠ 0 := by omega
    obtain ⟨p1, p2, p3, p4⟩ := plainT_ok ht
    have hkey : key.length = c := by simpa [hne] using hkey
    simp only [keyVal, if_neg hne]
    unfold Instr.checkKey
    simp only [Sem.run_bind, run_underlying p1, Result.andThen_ok]
    have each : ∀ f ∈ (P.fieldsOf k).toList, f.name ≠ "_" ∧ ∃ x, (part f.type ((key.map fun a => Value.int .i64 a).toArray) f.offset).run P w = .ok (.int .i64 x) w ∧ (Instr.checkKey em 9999 f.type (.int .i64 x)).run P w = .ok () w := fun f hf => by
      obtain ⟨j, hj, e⟩ := List.getElem_of_mem hf
      obtain ⟨q1, q2, q3⟩ := p4 j f (by rw [← e]; exact List.getElem?_eq_getElem hj)
      have hjk : j < key.length := by rw [hkey, ← hc]; simpa using hj
      have hl := hall f hf
      refine ⟨q1, key[j], ?_, ?_⟩
      · have e1 : ((key.map fun a => Value.int .i64 a).toArray)[f.offset]? = some (.int .i64 key[j]) := by rw [q2, Nat.zero_add]; simp [hjk]
        simp [part, leafT_agg hl, e1]
      · have hu : ∃ q, P.underlying f.type = some (.int q) := by
          unfold leafT at hl
          split at hl <;> first | exact ⟨_, ‹_›⟩ | cases hl
        obtain ⟨q, hu⟩ := hu
        unfold Instr.checkKey
        simp [run_underlying hu]
    rw [← Array.forIn_toList]
    generalize (P.fieldsOf k).toList = L at each
    induction L with
    | nil => simp
    | cons f L ih =>
      obtain ⟨hn, x, q1, q2⟩ := each f (by simp)
      simp only [List.forIn_cons, Sem.run_bind, hn, ne_eq, not_false_eq_true, if_true, Result.andThen_ok, q1, q2, Sem.run_pure]
      exact ih fun y hy => each y (by simp [hy])
theorem bits_ok (c : Nat) (key : List Int) : Instr.sameBits 10000 (keyVal c key) (keyVal c key) = true := by
  unfold keyVal
  split
  · simp [Instr.sameBits]
  · simp only [Instr.sameBits, beq_self_eq_true, Bool.true_and, List.all_eq_true]
    intro p hp
    obtain ⟨x, y⟩ := p
    have : x = y ∧ ∃ a, x = .int .i64 a := by
      generalize key = l at hp
      induction l with
      | nil => simp at hp
      | cons a l ih =>
        simp only [List.map_cons, List.zip_cons_cons, List.mem_cons, Prod.mk.injEq] at hp
        rcases hp with ⟨rfl, rfl⟩ | hp
        · exact ⟨rfl, a, rfl⟩
        · exact ih (by simpa using hp)
    obtain ⟨rfl, a, rfl⟩ := this
    simp [Instr.sameBits]

theorem look_at (key : List Int) : ∀ (es : List (List Int × Bool)) (i : Nat), (match atM key es i with | some (_, v) => v | none => .bool false) = .bool (lookM key es)
  | [], _ => rfl
  | (k', b) :: l, i => by
    by_cases e : k' = key
    · simp only [atM, lookM, if_pos e]
    · simp only [atM, lookM, if_neg e]
      exact look_at key l (i + 1)
theorem atM_none (key : List Int) : ∀ {es : List (List Int × Bool)} {i : Nat} (b : Bool), atM key es i = none → putM key b es = es ++ [(key, b)]
  | [], _, _, _ => rfl
  | (k', c) :: l, i, b, h => by
    simp only [atM] at h
    split at h
    · cases h
    · rename_i hne
      simp only [putM, if_neg hne, List.cons_append, atM_none key b h]
theorem atM_some (key : List Int) : ∀ {es : List (List Int × Bool)} {i j : Nat} {v : Value} (b : Bool), atM key es i = some (j, v) → i ≤ j ∧ ∃ c, es[j - i]? = some (key, c) ∧ putM key b es = es.set (j - i) (key, b)
  | [], _, _, _, _, h => by cases h
  | (k', c) :: l, i, j, v, b, h => by
    simp only [atM] at h
    split at h
    · rename_i e
      subst e
      cases h
      exact ⟨Nat.le_refl _, c, by simp, by simp [putM]⟩
    · rename_i hne
      obtain ⟨h1, c', h2, h3⟩ := atM_some key b h
      refine ⟨by omega, c', ?_, ?_⟩
      · rw [show j - i = (j - (i + 1)) + 1 by omega]; simpa using h2
      · simp only [putM, if_neg hne, h3]
        rw [show j - i = (j - (i + 1)) + 1 by omega]; simp
theorem putM_len {key : List Int} {b : Bool} {c : Nat} (hk : key.length = c) : ∀ {es : List (List Int × Bool)}, (∀ p ∈ es, p.1.length = c) → ∀ p ∈ putM key b es, p.1.length = c
  | [], _, p, hp => by simp [putM] at hp; subst hp; exact hk
  | (k', x) :: l, h, p, hp => by
    simp only [putM] at hp
    split at hp
    · rcases List.mem_cons.1 hp with rfl | hp
      · exact h (k', x) List.mem_cons_self
      · exact h p (List.mem_cons_of_mem _ hp)
    · rcases List.mem_cons.1 hp with rfl | hp
      · exact h (k', x) List.mem_cons_self
      · exact putM_len hk (fun q hq => h q (List.mem_cons_of_mem _ hq)) p hp

theorem ok_mkm {t : TypeId} {c : Nat} (hop : o.op = .makeMap t none) (hm : MemR n Lc m0 m1 H w) (he : evI (.mkm c) s H = some (v, H')) : Ok1 P o a w n Lc m0 m1 v H' := by
  simp only [evI] at he
  cases he
  obtain ⟨h1, h2⟩ := hm.allocMap c
  have hr : (execOp a.eval o).run P w = .ok (.value (.map (some w.heap.size))) (w.alloc (.map #[] 0)) := by
    simp [execOp, hop, Instr.makeMap, newObj, Sem.run]
  refine ⟨_, _, _, _, hr, .inr ⟨_, rfl, ?_⟩, h1, h2⟩
  rw [hm.len]
  have := VR.omap (n := n + 1) (Lc := addL Lc n ⟨w.heap.size, 1, 0⟩) (m0 := m0) (m1 := m1) n ⟨by omega, by simp [addL]⟩
  simpa [addL] using this
theorem ok_lkm {t : TypeId} {c : Nat} {x k : Operand} {x' k' : Opd} (hop : o.op = .lookup t x k false) (ht : mapT P t = some c) (hm : MemR n Lc m0 m1 H w) (hs : SR n Lc m0 m1 s a) (hx : opd x = some x') (hk : opd k = some k')
    (he : evI (.lkm c x' k') s H = some (v, H')) : H' = H ∧ Ok1 P o a w n Lc m0 m1 v H := by
  have hxv := opd_ok hs hx
  have hkv := opd_ok hs hk
  simp only [evI] at he
  split at he <;> try cases he
  rename_i h ex
  split at he <;> try cases he
  rename_i c' es key ho hkey
  split at he <;> cases he
  rename_i hc
  subst hc
  rw [ex] at hxv
  obtain ⟨hxp, hown⟩ := hxv.omap_inv
  obtain ⟨hkp, hlen⟩ := keyI_ok hkey hkv
  obtain ⟨kt, e, hu, hz, hK⟩ := mapT_ok ht
  obtain ⟨arr, clk, hb, hmap, hall⟩ := hm.map h _ _ ho
  refine ⟨rfl, .same hm (x := .bool (lookM key es)) ?_ .lit_⟩
  have hf := find_ok (w := w) hK hlen hmap hall
  have hch := check_ok (w := w) hK hlen arr.isEmpty
  simp only [execOp, hop, hxp, hkp, Instr.lookup, Sem.run_bind, run_underlying hu, Result.andThen_ok, MapKept.run_getObj_map hb, Sem.run_pure, hch, hf]
  rw [← look_at key es 0]
  cases h1 : atM key es 0 with
  | none => simp [hz]
  | some r => obtain ⟨j, u⟩ := r; simp
theorem ok_upm {t : TypeId} {c : Nat} {x k y : Operand} {x' k' y' : Opd} (hop : o.op = .mapUpdate t x k y) (ht : mapT P t = some c) (hm : MemR n Lc m0 m1 H w) (hs : SR n Lc m0 m1 s a) (hx : opd x = some x') (hk : opd k = some k') (hy : opd y = some y')
    (he : evI (.upm c x' k' y') s H = some (v, H')) : Ok1 P o a w n Lc m0 m1 v H' := by
  have hxv := opd_ok hs hx
  have hkv := opd_ok hs hk
  have hyv := opd_ok hs hy
  simp only [evI] at he
  split at he <;> try cases he
  rename_i h b ex ey
  split at he <;> try cases he
  rename_i c' es key ho hkey
  split at he <;> cases he
  rename_i hc
  subst hc
  rw [ex] at hxv
  rw [ey] at hyv
  have hyp := hyv.lit_inv
  obtain ⟨hxp, hown⟩ := hxv.omap_inv
  obtain ⟨hkp, hlen⟩ := keyI_ok hkey hkv
  obtain ⟨kt, e, hu, hz, hK⟩ := mapT_ok ht
  obtain ⟨arr, clk, hb, hmap, hall⟩ := hm.map h _ _ ho
  have hf := find_ok (w := w) hK hlen hmap hall
  have hch := check_ok (w := w) hK hlen false
  have fin : ∀ (arr' : Array MapEntry) (clk' : Nat), (execOp a.eval o).run P w = .ok .skip { w with heap := w.heap.setIfInBounds (Lc h).blk (.map arr' clk') } → arr'.toList.map (fun e => (e.key, e.val)) = (putM key b es).map (fun p => (keyVal c' p.1, Value.bool p.2)) → Ok1 P o a w n Lc m0 m1 .none_ (H.set h (.map c' (putM key b es))) := fun arr' clk' hr hmap' => by
    obtain ⟨g1, g2⟩ := MapKept.heap_set (o' := .map arr' clk') hb
    obtain ⟨q1, q2⟩ := hm.storeMap (w' := { w with heap := w.heap.setIfInBounds (Lc h).blk (.map arr' clk') }) ho rfl rfl rfl (by simp) (es' := putM key b es) ⟨arr', clk', g1, hmap', putM_len hlen hall⟩ g2
    exact ⟨_, _, _, _, hr, .inl ⟨rfl, rfl⟩, q1, q2⟩
  cases h1 : atM key es 0 with
  | none =>
    rw [h1] at hf
    refine fin (arr.push { key := keyVal c' key, val := .bool b, born := clk }) (clk + 1) ?_ ?_
    · simp [execOp, hop, hxp, hkp, hyp, Instr.mapUpdate, run_underlying hu, MapKept.run_getObj_map hb, hch, hf, MapKept.run_setObj_map _ hb]
    · rw [atM_none key b h1]
      simp [hmap]
  | some r =>
    obtain ⟨j, u⟩ := r
    rw [h1] at hf
    obtain ⟨_, cc, h2, h3⟩ := atM_some key b h1
    rw [Nat.sub_zero] at h2 h3
    have hj : j < arr.size := by
      have := congrArg List.length hmap
      have h4 := (List.getElem?_eq_some_iff.1 h2).1
      simp at this; omega
    have hkj : arr[j].key = keyVal c' key := by
      have := congrArg (fun l => l[j]?) hmap
      simp [h2, hj] at this
      exact this.1
    refine fin (arr.modify j fun e => { e with key := keyVal c' key, val := .bool b }) clk ?_ ?_
    · have hst : (Instr.keyThatStays (keyVal c' key) (keyVal c' key)).run P w = .ok (keyVal c' key) w := by simp [Instr.keyThatStays, bits_ok]
      simp [execOp, hop, hxp, hkp, hyp, Instr.mapUpdate, run_underlying hu, MapKept.run_getObj_map hb, hch, hf, hj, hkj, hst, MapKept.run_setObj_map _ hb]
    · rw [h3]
      apply List.ext_getElem?
      intro i
      have h5 := congrArg (fun l => l[i]?) hmap
      simp only [List.getElem?_map, Array.getElem?_toList] at h5 ⊢
      rw [Array.getElem?_modify, List.getElem?_set]
      by_cases e : j = i
      · subst e
        have h4 := (List.getElem?_eq_some_iff.1 h2).1
        simp [hj, h4]
      · simp only [if_neg e]
        exact h5

/-! ### Appends of zeros, and clear -/
theorem ok_appz {t t' e : TypeId} {q : IntKind} {sz by_ : Nat} {x y : Operand} {x' y' : Opd} {c : Call} {z : List V} (hop : o.op = .call c) (hcal : c.callee = .builtin .append) (hargs : c.args.toList = [x, y]) (hts : c.argTypes.toList = [t, t']) (ht : sliceT P t = some (e, sz, by_)) (ht' : P.underlying t' = some (.int q)) (hz : zeroT P e = some z)
    (hm : MemR n Lc m0 m1 H w) (hs : SR n Lc m0 m1 s a) (hx : opd x = some x') (hy : opd y = some y') (he : evI (.appz e sz by_ z x' y') s H = some (v, H')) : Ok1 P o a w n Lc m0 m1 v H' := by
  obtain ⟨ti, hu, hti, rfl, rfl, hp1, hp2⟩ := sliceT_ok ht
  obtain ⟨i, zv, g1, g2, g3, g4, g5, g6, g7⟩ := zero_rel (n := n) (Lc := Lc) (m0 := m0) (m1 := m1) hz
  rw [hti] at g1; cases g1
  have hxv := opd_ok hs hx
  have hyv := opd_ok hs hy
  obtain ⟨cs, hcs⟩ := run_call (P := P) (w := w) (a := a) hop hcal
  rw [args2 hargs, types2 hts] at hcs
  simp only [evI] at he
  split at he <;> try cases he
  rename_i k ex ey
  split at he <;> cases he
  rename_i hb
  obtain ⟨b1, b2⟩ := hb
  rw [ex] at hxv
  rw [ey] at hyv
  have hxp := hxv.lit_inv
  have hyp := hyv.lit_inv
  obtain ⟨m, rfl⟩ := Int.eq_ofNat_of_zero_le (Int.le_of_lt b1)
  have hm0 : 0 < m := by omega
  have hby : m * ti.bytes ≤ 140737488355328 := by omega
  have hmle : m ≤ 140737488355328 := Nat.le_trans (Nat.le_mul_of_pos_right _ hp2) hby
  have hg := grownCap_ge w m 0 e
  have hgm := grownCap_le_maxLen w m 0 e (by simp only [maxLen]; omega)
  have hr : (Builtin.append_ #[t, t'] o.type #[a.eval x, a.eval y]).run P w = .ok (.slice (some ⟨w.heap.size, 0, none⟩) m (grownCap w m 0 e)) (w.drew.alloc (.cells (Builtin.zeroCells zv.cells m ++ Builtin.zeroCells zv.cells (grownCap w m 0 e - m)) e)) := by
    rw [hxp, hyp]
    have hw : IntKind.i64.wrap (m : Int) = m := by simp [IntKind.wrap, IntKind.bits, IntKind.signed]; omega
    have hne : ¬ m = 0 := by omega
    have h48 : ¬ (281474976710656 < (m : Int) * (ti.bytes : Int)) := by omega
    have h63' : ¬ (9223372036854775807 < (m : Int)) := by omega
    have h48' : ¬ (281474976710656 < Builtin.nextslicecap m 0 * ti.bytes) := by rw [nextslicecap_zero hm0]; omega
    have hms : ¬ m * ti.size = 0 := Nat.pos_iff_ne_zero.1 (Nat.mul_pos hm0 hp1)
    have hneg : ¬ ((m : Int) < 0) := by omega
    simp [Builtin.append_, run_underlying hu, run_underlying ht', sizeOf, typeInfo, zeroValue, hti, g2, asInt, asIntOf, hw, hne, hneg, h48, h63', h48', hms, Question.forced, run_firstCells_none, newRow, grownCap]
  have hmr := made_rel g5 g7 (grownCap w m 0 e) (by omega)
  have hmr2 := made_rel g5 g7 m (by omega)
  have harr : (Builtin.zeroCells zv.cells m ++ Builtin.zeroCells zv.cells (grownCap w m 0 e - m)).size = grownCap w m 0 e * ti.size := by
    simp only [Array.size_append, size_zeroCells, g3, ← Nat.add_mul]; congr 1; omega
  have hlen : ((List.replicate m z).flatten).length = m * ti.size := by simp [g4]
  have hrel : ∀ j (hj : j < ((List.replicate m z).flatten).length) (hj' : j < (Builtin.zeroCells zv.cells m ++ Builtin.zeroCells zv.cells (grownCap w m 0 e - m)).size), VR n Lc m0 m1 ((List.replicate m z).flatten)[j] (Builtin.zeroCells zv.cells m ++ Builtin.zeroCells zv.cells (grownCap w m 0 e - m))[j] := fun j hj hj' => by
    rw [Array.getElem_append_left (by rw [size_zeroCells, g3]; omega)]
    have := hmr2.2 j hj (by rw [← hmr2.1]; exact hj)
    exact this
  obtain ⟨a1, a2⟩ := (show MemR n Lc m0 m1 H w.drew from hm.drew).alloc (l := (List.replicate m z).flatten) (t := e) (z := ti.size) (cap := grownCap w m 0 e) hp1 harr hgm (by rw [harr, hlen]; exact Nat.mul_le_mul_right _ hg) (cells_rel hrel (rep_leaf g6 _))
  refine ⟨_, _, _, _, by rw [hcs]; simp only [builtin, Sem.run_bind, hr, Result.andThen_ok, Sem.run_pure]; rfl, .inr ⟨_, rfl, ?_⟩, a1, (Stp.drew n Lc w).trans a2⟩
  rw [hm.len]
  have := VR.osl (n := n + 1) (Lc := addL Lc n ⟨w.drew.heap.size, ti.size, grownCap w m 0 e⟩) (m0 := m0) (m1 := m1) n 0 m (grownCap w m 0 e) ⟨by omega, by simp [addL]; exact hp1⟩ hg (by simp [addL])
  simpa [addL] using this

/-- Cells written over cells of an object. -/
theorem MemR.over (hm : MemR n Lc m0 m1 H w) {h off t' sz : Nat} {l u : List V} {xs : List Value} (ho : H[h]? = some (.cells l t' sz)) (hl : u.length = xs.length) (hv : ∀ j (hj : j < u.length) (hj' : j < xs.length), VR n Lc m0 m1 u[j] xs[j]) (hone : ∀ y ∈ xs, y.oneCell' = true) (hfit : off + u.length ≤ l.length) :
    ∃ w', (storeCells ⟨(Lc h).blk, off, none⟩ xs).run P w = .ok () w' ∧ MemR n Lc m0 m1 (H.set h (.cells (l.take off ++ u ++ l.drop (off + u.length)) t' sz)) w' ∧ Stp n Lc w n Lc w' := by
  obtain ⟨e1, e2, arr, e3, e4, e5, e6⟩ := hm.own h l t' sz ho
  have hst := run_storeCells_at P (Lc h).blk off t' xs 0 arr w e3 (by simp; omega) hone
  simp only [Nat.add_zero] at hst
  have hrow := setRow_heap w (Lc h).blk arr (arr.toList.take off ++ xs ++ arr.toList.drop (off + xs.length)).toArray t' (0, 0) e3
  have hlen : (arr.toList.take off ++ xs ++ arr.toList.drop (off + xs.length)).length = arr.size := by simp; omega
  obtain ⟨g1, g2⟩ := hm.store (w' := w.setRow (Lc h).blk (arr.toList.take off ++ xs ++ arr.toList.drop (off + xs.length)).toArray) (l' := l.take off ++ u ++ l.drop (off + u.length)) ho rfl rfl rfl (by simp) hrow
    (fun b hb => by simp only [World.setRow, Array.getElem?_modify]; rw [if_neg (fun e => hb e.symm)]) (by simp only [List.size_toArray]; rw [hlen, e4]) (by simp only [List.size_toArray, hlen]; simp; omega) (by
      intro j hj hj'
      simp only [List.getElem_toArray]
      by_cases j1 : j < off
      · have q1 : (l.take off ++ u ++ l.drop (off + u.length))[j] = l[j]'(by omega) := by
          rw [List.getElem_append_left (by simp; omega), List.getElem_append_left (by simp; omega)]; simp
        have q2 : (arr.toList.take off ++ xs ++ arr.toList.drop (off + xs.length))[j]'(by simpa using hj') = arr[j]'(by omega) := by
          rw [List.getElem_append_left (by simp; omega), List.getElem_append_left (by simp; omega)]; simp
        rw [q1, q2]; exact e6 j (by omega) (by omega)
      · by_cases j2 : j < off + u.length
        · have q1 : (l.take off ++ u ++ l.drop (off + u.length))[j] = u[j - off]'(by omega) := by
            rw [List.getElem_append_left (by simp; omega), List.getElem_append_right (by simp; omega)]; congr 1; simp; omega
          have q2 : (arr.toList.take off ++ xs ++ arr.toList.drop (off + xs.length))[j]'(by simpa using hj') = xs[j - off]'(by omega) := by
            rw [List.getElem_append_left (by simp; omega), List.getElem_append_right (by simp; omega)]; congr 1; simp; omega
          rw [q1, q2]
          exact ⟨hone _ (List.getElem_mem _), hv _ (by omega) (by omega)⟩
        · have hjl : j < l.length := by simp at hj; omega
          have q1 : (l.take off ++ u ++ l.drop (off + u.length))[j] = l[j] := by
            rw [List.getElem_append_right (by simp; omega)]; simp; congr 1; omega
          have q2 : (arr.toList.take off ++ xs ++ arr.toList.drop (off + xs.length))[j]'(by simpa using hj') = arr[j]'(by omega) := by
            rw [List.getElem_append_right (by simp; omega)]; simp; congr 1; omega
          rw [q1, q2]; exact e6 j hjl (by omega))
  exact ⟨_, hst, g1, g2⟩

theorem ok_clr {t e : TypeId} {sz by_ : Nat} {x : Operand} {x' : Opd} {c : Call} {z : List V} (hop : o.op = .call c) (hcal : c.callee = .builtin .clear) (hargs : c.args.toList = [x]) (hts : c.argTypes.toList = [t]) (ht : sliceT P t = some (e, sz, by_)) (hz : zeroT P e = some z)
    (hm : MemR n Lc m0 m1 H w) (hs : SR n Lc m0 m1 s a) (hx : opd x = some x') (he : evI (.clr sz z x') s H = some (v, H')) : Ok1 P o a w n Lc m0 m1 v H' := by
  obtain ⟨ti, hu, hti, rfl, rfl, hp1, hp2⟩ := sliceT_ok ht
  obtain ⟨i, zv, g1, g2, g3, g4, g5, g6, g7⟩ := zero_rel (n := n) (Lc := Lc) (m0 := m0) (m1 := m1) hz
  rw [hti] at g1; cases g1
  have hxv := opd_ok hs hx
  obtain ⟨cs, hcs⟩ := run_call (P := P) (w := w) (a := a) hop hcal
  rw [args1 hargs, types1 hts] at hcs
  have fin : ∀ {w' : World}, (Builtin.clear_ #[t] o.type #[a.eval x]).run P w = .ok (.tuple #[]) w' → (execOp a.eval o).run P w = .ok (.value (.tuple #[])) w' := fun h => by
    rw [hcs]; simp only [builtin, Sem.run_bind, h, Result.andThen_ok, Sem.run_pure]
  simp only [evI] at he
  split at he
  · rename_i ex
    cases he
    rw [ex] at hxv
    have hxp := hxv.lit_inv
    refine .same hm (x := .tuple #[]) (fin ?_) .lit_
    rw [hxp]; simp [Builtin.clear_, run_underlying hu]
  · rename_i ex
    cases he
    rw [ex] at hxv
    obtain ⟨A, hxp⟩ := hxv.zsl_inv
    refine .same hm (x := .tuple #[]) (fin ?_) .lit_
    rw [hxp]; cases A <;> simp [Builtin.clear_, run_underlying hu]
  · rename_i h off len ex
    rw [ex] at hxv
    obtain ⟨cap, hxp, hh, hlc, hcc⟩ := hxv.osl_inv
    split at he <;> try cases he
    rename_i l t' z' ho
    split at he <;> cases he
    rename_i hb
    obtain ⟨rfl, hb⟩ := hb
    have hmr := made_rel (n := n) (Lc := Lc) (m0 := m0) (m1 := m1) g5 g7 len (by omega)
    have hzc : (Builtin.zeroCells zv.cells len) = (Array.range (len * zv.cells.size)).map (zv.cells[· % zv.cells.size]!) := rfl
    rw [← hzc] at hmr
    have hlen : ((List.replicate len z).flatten).length = len * ti.size := by simp [g4]
    have hleaf := rep_leaf g6 len
    obtain ⟨w', r1, r2, r3⟩ := hm.over (P := P) (off := off) (u := (List.replicate len z).flatten) (xs := (Builtin.zeroCells zv.cells len).toList) ho (by simpa using hmr.1) (fun j hj hj' => by simpa using hmr.2 j hj (by simpa using hj')) (fun y hy => by
      obtain ⟨j, hj, rfl⟩ := List.getElem_of_mem hy
      have hj' : j < (Builtin.zeroCells zv.cells len).size := by simpa using hj
      have := (hmr.2 j (by rw [hmr.1]; exact hj') hj').one (List.all_eq_true.1 hleaf _ (List.getElem_mem _))
      simpa using this) (by rw [hlen]; exact hb)
    rw [hlen] at r2
    refine ⟨_, w', n, Lc, fin ?_, .inr ⟨_, rfl, .lit_⟩, r2, r3⟩
    rw [hxp]
    by_cases hl0 : len = 0
    · subst hl0
      have : (Builtin.zeroCells zv.cells 0).toList = [] := by
        have h0 := hmr.1
        simp only [List.replicate_zero, List.flatten_nil, List.length_nil] at h0
        exact List.eq_nil_of_length_eq_zero (by simpa using h0.symm)
      rw [this] at r1
      have hw : w' = w := by
        simp [storeCells] at r1
        exact r1.symm
      subst hw
      simp [Builtin.clear_, run_underlying hu]
    · obtain ⟨k, rfl⟩ : ∃ k, len = k + 1 := ⟨len - 1, by omega⟩
      simp [Builtin.clear_, run_underlying hu, zeroValue, typeInfo, hti, g2, r1]
  · cases he
end
end Go.Proofs.Vm
