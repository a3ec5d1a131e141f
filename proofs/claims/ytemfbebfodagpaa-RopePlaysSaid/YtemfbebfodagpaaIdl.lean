/- Part of a proof that the laws of this seat return true: a machine over plain data (Idl) that is sound for the given model, and its runs. Conditions: none. -/
import GoSem.Dispatch
import GoSem.Step
set_option linter.all false
namespace Go.Idl
open Go

/-- Data: one cell each. 'unk': of it nothing is known. -/
inductive D where
  | int (k : IntKind) (n : Int)
  | bool (b : Bool)
  | str (s : List Nat)
  | flt (k : FloatKind) (b : Nat)
  | cpx (k : FloatKind) (re im : Nat)
  | nilp | nilf | nilm | nili | nils
  | fn (f : FuncId)
  | slice (sz : Nat) (es : List (List D))
  | ptr (cells : List D)
  | unk
  deriving Inhabited

/-- What one cell holds. -/
inductive C where
  | d (x : D)
  | ptr (k off : Nat)
  | eptr (k sz i off : Nat)
  | edata (k : Nat)
  | arr (k : Nat)
  | map (k : Nat)
  | clo (f : FuncId) (caps : List (Nat × Nat))
  | dead
  deriving Inhabited

/-- A value: its cells, and whether it is a struct or an array; or several. -/
inductive DV where
  | val (agg : Bool) (cs : List C)
  | tup (vs : List (Bool × List C))
  deriving Inhabited

abbrev DV.one (c : C) : DV := .val false [c]
abbrev DV.dd (x : D) : DV := .val false [.d x]

inductive Ob where
  | box (fz : Bool) (cs : List C)
  | arr (fz st : Bool) (t sz : Nat) (es : List (List D))
  | map (ka va : Bool) (es : List (List D × List D))
  | dead
  deriving Inhabited

abbrev Env := List (Nat × DV)
abbrev Heap := List Ob

def Env.get : Env → Nat → Option DV
  | [], _ => none
  | (k, v) :: r, t => if Nat.beq k t then some v else Env.get r t

/-- What is known of a type. -/
structure TI where
  desc : TypeDesc
  size : Nat
  bytes : Nat
  zero : Option (List D)
  sls : List (Nat × Nat)
  eqk : List Nat

inductive Prim where
  | fn (g : List DV → Option DV)
  | clone
  | ident

abbrev Opnd := Operand → Option DV

structure Tab where
  info : TypeId → Option TI
  func : FuncId → Option Func
  live : FuncId → List Nat
  keep : FuncId → Bool
  byref : FuncId → Bool
  snap : FuncId → Bool
  prim : FuncId → Option Prim
  glob : Nat → Option (List D)
  fzAt : FuncId → Nat → List Nat
  mv : FuncId → Bool
  mvout : FuncId → List Nat
  ext : Opnd → Heap → Op → TypeId → Option (Option DV × Heap)

def maxStr : Nat := 4611686018427387904
def bytesOf (s : ByteArray) : List Nat := s.data.toList.map UInt8.toNat

def constD : Value → Option D
  | .bool b => some (.bool b)
  | .int k n => some (.int k n)
  | .float k b => some (.flt k b)
  | .complex k a b => some (.cpx k a b)
  | .string s => if s.size < maxStr then some (.str (bytesOf s)) else none
  | .pointer none => some .nilp
  | .slice none 0 0 => some .nils
  | .map none => some .nilm
  | .nilFunc => some .nilf
  | .nilIface => some .nili
  | _ => none
def constDs : List Value → Option (List D)
  | [] => some []
  | v :: vs =>
    match constD v, constDs vs with
    | some d, some ds => some (d :: ds)
    | _, _ => none
def constDV : Value → Option DV
  | .agg cs => match constDs cs.toList with | some ds => some (.val true (ds.map .d)) | none => none
  | v => match constD v with | some d => some (.dd d) | none => none

def TI.agg (i : TI) : Bool := match i.desc with | .struct _ | .array _ _ => true | _ => false

def mkVal (i : TI) (cs : List C) : Option DV :=
  if i.agg then some (.val true cs) else match cs with | [c] => some (.one c) | _ => none

def isNils : C → Bool
  | .d .nils => true
  | _ => false
/-- Fresh arrays in the place of nil slices. -/
def thaw (h : Heap) : List (Nat × Nat) → List C → List C × Heap
  | s :: ss, c :: cs =>
    cond (Nat.blt 0 s.2 && isNils c)
      (let r := thaw (h ++ [.arr false false s.1 s.2 []]) ss cs; (.arr h.length :: r.1, r.2))
      (let r := thaw h ss cs; (c :: r.1, r.2))
  | [], c :: cs => (c :: cs, h)
  | _, [] => ([], h)

/-- A cell as data: what it leads to is frozen. -/
def frz : Nat → Heap → C → Option (D × Heap)
  | _, h, .d x => some (x, h)
  | _, h, .arr k =>
    match h[k]? with
    | some (.arr _ st t sz es) => some (.slice sz es, h.set k (.arr true st t sz es))
    | _ => none
  | n + 1, h, .ptr k off =>
    match h[k]? with
    | some (.box _ cs) =>
      match frzs (frz n) h cs with
      | some (ds, h) => some (.ptr (ds.drop off), h.set k (.box true (ds.map .d)))
      | none => none
    | _ => none
  | _, h, .clo f [] => some (.fn f, h)
  | _, _, _ => none
where
  frzs (g : Heap → C → Option (D × Heap)) (h : Heap) : List C → Option (List D × Heap)
    | [] => some ([], h)
    | c :: cs =>
      match g h c with
      | some (d, h) =>
        match frzs g h cs with
        | some (ds, h) => some (d :: ds, h)
        | none => none
      | none => none
abbrev frzL (n : Nat) (h : Heap) (cs : List C) : Option (List D × Heap) := frz.frzs (frz n) h cs

/-- A cell as data, for the time of a call that hands back no memory. -/
def snapC : Nat → Heap → C → D
  | _, _, .d x => x
  | _, h, .arr k =>
    match h[k]? with
    | some (.arr _ _ _ sz es) => .slice sz es
    | _ => .unk
  | n + 1, h, .ptr k off =>
    match h[k]? with
    | some (.box _ cs) => .ptr ((cs.map (snapC n h)).drop off)
    | _ => .unk
  | _, _, _ => .unk

def loadC (h : Heap) (p : C) (n : Nat) : Option (List C) :=
  match p with
  | .d (.ptr ds) => let r := ds.take n; if r.length = n then some (r.map .d) else none
  | .ptr k off =>
    match h[k]? with
    | some (.box _ cs) => let r := (cs.drop off).take n; if r.length = n then some r else none
    | _ => none
  | .eptr k s i off =>
    match h[k]? with
    | some (.arr _ _ _ sz es) =>
      match es[i]? with
      | some e => let r := (e.drop off).take n; if r.length = n ∧ s = sz then some (r.map .d) else none
      | none => none
    | _ => none
  | _ => none
def setC {α : Type} (cells : List α) (off : Nat) (vs : List α) : List α := cells.take off ++ vs ++ cells.drop (off + vs.length)
def storeC (h : Heap) (p : C) (vs : List C) : Option Heap :=
  match p with
  | .ptr k off =>
    match h[k]? with
    | some (.box false cs) => if off + vs.length ≤ cs.length then some (h.set k (.box false (setC cs off vs))) else none
    | _ => none
  | .eptr k s i off =>
    match frzL 20 h vs with
    | some (ds, h) =>
      match h[k]? with
      | some (.arr false st t sz es) =>
        match es[i]? with
        | some e => if off + ds.length ≤ e.length ∧ s = sz then some (h.set k (.arr false st t sz (es.set i (setC e off ds)))) else none
        | none => none
      | _ => none
    | none => none
  | _ => none

def floatEqB (k : FloatKind) (x y : Nat) : Bool := k.format.order x y == some .eq
def eqD : D → D → Option Bool
  | .int k a, .int k' b => if k = k' then some (a == b) else none
  | .bool a, .bool b => some (a == b)
  | .str a, .str b => some (a == b)
  | .cpx k a b, .cpx k' c d => if k = k' then some (floatEqB k a c && floatEqB k b d) else none
  | .nilp, .nilp => some true
  | .nilp, .ptr _ => some false
  | .ptr _, .nilp => some false
  | _, _ => none
/-- Cells of one kind: 1 bool, 2 integer, 3 string, 4 complex, 5 pointer. -/
def eqC : Nat → C → C → Option Bool
  | 1, .d (.bool a), .d (.bool b) => some (a == b)
  | 2, .d (.int k a), .d (.int k' b) => if k = k' then some (a == b) else none
  | 3, .d (.str a), .d (.str b) => some (a == b)
  | 4, .d (.cpx k a b), .d (.cpx k' c d) => if k = k' then some (floatEqB k a c && floatEqB k b d) else none
  | 5, .d .nilp, .d .nilp => some true
  | 5, .d .nilp, .d (.ptr _) => some false
  | 5, .d (.ptr _), .d .nilp => some false
  | 5, .d .nilp, .ptr _ _ => some false
  | 5, .ptr _ _, .d .nilp => some false
  | 5, .ptr k o, .ptr k' o' => if Nat.beq k k' then some (Nat.beq o o') else none
  | _, _, _ => none
/-- A list of kinds for an aggregate begins with 0. -/
def eqAgg : List Nat → Bool
  | 0 :: _ => true
  | _ => false
def eqKs : List Nat → List Nat
  | 0 :: ks => ks
  | ks => ks
def eqCs : List Nat → List C → List C → Option Bool
  | [], [], [] => some true
  | k :: ks, a :: as, b :: bs =>
    match eqC k a b, eqCs ks as bs with
    | some x, some y => some (x && y)
    | _, _ => none
  | _, _, _ => none

def maxEls : Nat := 1048576

def binD (op : BinOp) : D → D → Option D
  | .int k a, .int yk b =>
    match op with
    | .shl => if b < 0 then none else some (.int k (k.wrap (a * 2 ^ (min b.toNat k.bits))))
    | .shr => if b < 0 then none else some (.int k (a.fdiv (2 ^ (min b.toNat k.bits))))
    | op =>
      if k ≠ yk then none else
      match op with
      | .add => some (.int k (k.wrap (a + b)))
      | .sub => some (.int k (k.wrap (a - b)))
      | .mul => some (.int k (k.wrap (a * b)))
      | .quo => if b = 0 then none else some (.int k (k.wrap (a.tdiv b)))
      | .rem => if b = 0 then none else some (.int k (a.tmod b))
      | .and => some (.int k (k.wrap (BitVec.ofInt k.bits a &&& BitVec.ofInt k.bits b).toNat))
      | .or => some (.int k (k.wrap (BitVec.ofInt k.bits a ||| BitVec.ofInt k.bits b).toNat))
      | .xor => some (.int k (k.wrap (BitVec.ofInt k.bits a ^^^ BitVec.ofInt k.bits b).toNat))
      | .andNot => some (.int k (k.wrap (BitVec.ofInt k.bits a &&& ~~~ BitVec.ofInt k.bits b).toNat))
      | .eql => some (.bool (a == b))
      | .neq => some (.bool (a != b))
      | .lss => some (.bool (a < b))
      | .leq => some (.bool (a ≤ b))
      | .gtr => some (.bool (a > b))
      | .geq => some (.bool (a ≥ b))
      | _ => none
  | .str a, .str b =>
    match op with
    | .add => if a.length + b.length < maxStr then some (.str (a ++ b)) else none
    | .eql => some (.bool (a == b))
    | .neq => some (.bool (!(a == b)))
    | _ => none
  | .cpx k a b, .cpx k' c d =>
    if k ≠ k' then none else
    match op with
    | .add => match k.format.add a c, k.format.add b d with | some x, some y => some (.cpx k x y) | _, _ => none
    | .sub => match k.format.sub a c, k.format.sub b d with | some x, some y => some (.cpx k x y) | _, _ => none
    | .eql => some (.bool (floatEqB k a c && floatEqB k b d))
    | .neq => some (.bool !(floatEqB k a c && floatEqB k b d))
    | _ => none
  | _, _ => none
def plainD : D → Bool
  | .int _ _ | .str _ | .cpx _ _ _ => true
  | _ => false
def plainC : List C → Bool
  | [.d x] => plainD x
  | _ => false
def binV (eqk : List Nat) (op : BinOp) (x y : DV) : Option DV :=
  match x, y with
  | .val a xs, .val b ys =>
    if !a && !b && plainC xs && plainC ys then
      match xs, ys with
      | [.d x], [.d y] => match binD op x y with | some d => some (.dd d) | none => none
      | _, _ => none
    else if !eqk.isEmpty && a == b && a == eqAgg eqk then
      match op with
      | .eql => match eqCs (eqKs eqk) xs ys with | some r => some (.dd (.bool r)) | none => none
      | .neq => match eqCs (eqKs eqk) xs ys with | some r => some (.dd (.bool !r)) | none => none
      | _ => none
    else none
  | _, _ => none

def unD (op : UnOp) : D → Option D
  | .int k n => match op with
    | .neg => some (.int k (k.wrap (0 - n)))
    | .xor => some (.int k (k.wrap (BitVec.ofInt k.bits (if k.signed then -1 else k.max) ^^^ BitVec.ofInt k.bits n).toNat))
    | _ => none
  | .bool b => match op with | .not => some (.bool !b) | _ => none
  | _ => none

def byteOfD : List D → Option Nat
  | [.int .u8 n] => if 0 ≤ n ∧ n < 256 then some n.toNat else none
  | _ => none
def bytesOfEs : List (List D) → Option (List Nat)
  | [] => some []
  | e :: es => match byteOfD e, bytesOfEs es with | some b, some bs => some (b :: bs) | _, _ => none
def bytesEs (s : List Nat) : List (List D) := s.map fun (b : Nat) => [D.int .u8 (Int.ofNat b)]

def convD (dst : TypeDesc) : D → Option D
  | .int _ n =>
    match dst with
    | .int k => some (.int k (k.wrap n))
    | .float k => some (.flt k (k.nearest n))
    | _ => none
  | .flt s b =>
    match dst with
    | .int k => match (s.decode b).toInt .zero with
      | some n => if k.min ≤ n ∧ n ≤ k.max then some (.int k n) else none
      | none => none
    | _ => none
  | .str s => match dst with | .string => some (.str s) | _ => none
  | _ => none

def lenV (h : Heap) : DV → Option Nat
  | .val false [.d (.slice _ es)] => some es.length
  | .val false [.d .nils] => some 0
  | .val false [.d (.str s)] => some s.length
  | .val false [.arr k] => match h[k]? with | some (.arr _ _ _ _ es) => some es.length | _ => none
  | _ => none
/-- The elements of a slice, or of a string's bytes, each of so many cells. -/
def elemsOf (h : Heap) (sz : Nat) : DV → Option (List (List D))
  | .val false [.d (.slice s es)] => if s = sz then some es else none
  | .val false [.d .nils] => some []
  | .val false [.d (.str s)] => if sz = 1 then some (bytesEs s) else none
  | .val false [.arr k] => match h[k]? with | some (.arr _ _ _ s es) => if s = sz then some es else none | _ => none
  | _ => none

def eqDs : List D → List D → Option Bool
  | [], [] => some true
  | a :: as, b :: bs => match eqD a b, eqDs as bs with | some x, some y => some (x && y) | _, _ => none
  | _, _ => none
def lookupD (k : List D) : List (List D × List D) → Option (Option (List D))
  | [] => some none
  | (k', v) :: r => match eqDs k k' with
    | some true => some (some v)
    | some false => lookupD k r
    | none => none
def updateD (k v : List D) : List (List D × List D) → Option (List (List D × List D))
  | [] => some [(k, v)]
  | (k', v') :: r => match eqDs k k' with
    | some true => some ((k, v) :: r)
    | some false => match updateD k v r with | some r => some ((k', v') :: r) | none => none
    | none => none

def fillC {α : Type} (cells : List α) : List (Nat × List α) → List α
  | [] => cells
  | (off, vs) :: r => fillC (setC cells off vs) r

def evs (ρ : Opnd) : List Operand → Option (List DV)
  | [] => some []
  | x :: xs => match ρ x, evs ρ xs with | some v, some vs => some (v :: vs) | _, _ => none

def intOf? : Option DV → Option Int
  | some (.val false [.d (.int _ n)]) => some n
  | _ => none

def placeOf (T : Tab) (desc : TypeDesc) (i : Nat) : Option (Nat × Nat) :=
  match desc with
  | .struct fs => match fs[i]? with
    | some f => match T.info f.type with | some t => some (f.offset, t.size) | none => none
    | none => none
  | .array _ e => match T.info e with | some t => some (i * t.size, t.size) | none => none
  | _ => none
def buildParts (T : Tab) (desc : TypeDesc) (n : Nat) (ρ : Opnd) : List (Nat × Operand) → Option (List (Nat × List C))
  | [] => some []
  | (i, x) :: r =>
    match placeOf T desc i, ρ x, buildParts T desc n ρ r with
    | some (off, sz), some (.val _ cs), some r => if cs.length = sz ∧ off + sz ≤ n then some ((off, cs) :: r) else none
    | _, _, _ => none

def sliceParts (sz : Nat) (ρ : Opnd) (es : List (List D)) (h : Heap) : List (Nat × Operand) → Option (List (List D) × Heap)
  | [] => some (es, h)
  | (i, x) :: r =>
    match ρ x with
    | some (.val _ cs) =>
      match frzL 20 h cs with
      | some (ds, h) => if ds.length = sz ∧ i < es.length then sliceParts sz ρ (es.set i ds) h r else none
      | none => none
    | _ => none

def minD (mx : Bool) (a : D) : List DV → Option D
  | [] => some a
  | .val false [.d (.int _ y)] :: r =>
    match a with
    | .int k x => minD mx (.int k (if mx then (if y > x then y else x) else (if y < x then y else x))) r
    | _ => none
  | _ :: _ => none

def slStr : TypeDesc → Bool
  | .slice _ | .string => true
  | _ => false
def byteSl (T : Tab) (src dst : TypeDesc) : Bool :=
  match src, dst with
  | .slice e, .string => match T.info e with | some ie => (match ie.desc with | .int .u8 => true | _ => false) | none => false
  | _, _ => false

/-- An operation that is no call of a function: what it yields (a store: nothing), and memory behind it. -/
def evalOp (T : Tab) (ρ : Opnd) (h : Heap) (op : Op) (type : TypeId) : Option (Option DV × Heap) :=
  match op with
  | .move x => match ρ x with | some v => some (some v, h) | none => none
  | .assign x =>
    match ρ x with
    | some (.val a cs) =>
      let r := thaw h (match T.info type with | some i => i.sls | none => []) cs
      some (some (.val a r.1), r.2)
    | _ => none
  | .pick c a b =>
    match ρ c with
    | some (.val false [.d (.bool true)]) => match ρ a with | some v => some (some v, h) | none => none
    | some (.val false [.d (.bool false)]) => match ρ b with | some v => some (some v, h) | none => none
    | _ => none
  | .alloc t =>
    match T.info t with
    | some i => match i.zero with
      | some z =>
        let r := thaw h i.sls (z.map .d)
        some (some (.one (.ptr r.2.length 0)), r.2 ++ [.box false r.1])
      | none => none
    | none => none
  | .box t x =>
    match ρ x with
    | some (.val _ cs) =>
      let r := thaw h (match T.info t with | some i => i.sls | none => []) cs
      some (some (.one (.ptr r.2.length 0)), r.2 ++ [.box false r.1])
    | _ => none
  | .build t parts =>
    match T.info t with
    | some i =>
      match i.zero with
      | some z =>
        match buildParts T i.desc z.length ρ parts.toList with
        | some ps =>
          if i.agg then
            let r := thaw h i.sls (fillC (z.map .d) ps)
            some (some (.val true r.1), r.2)
          else none
        | none => none
      | none => none
    | none => none
  | .buildSlice t n parts =>
    match T.info t with
    | some i =>
      match i.desc with
      | .slice e =>
        match T.info e with
        | some ie =>
          match ie.zero with
          | some z =>
            if n * ie.size ≤ maxEls ∧ 0 < ie.size ∧ z.length = ie.size then
              match sliceParts ie.size ρ (List.replicate n z) h parts.toList with
              | some (es, h) => some (some (.one (.arr h.length)), h ++ [.arr false false e ie.size es])
              | none => none
            else none
          | none => none
        | none => none
      | _ => none
    | none => none
  | .load t p =>
    match T.info t, ρ p with
    | some i, some (.val false [p]) =>
      match loadC h p i.size with
      | some cs => match mkVal i cs with | some v => some (some v, h) | none => none
      | none => none
    | _, _ => none
  | .store t p x =>
    match T.info t, ρ p, ρ x with
    | some i, some (.val false [p]), some (.val _ cs) =>
      if cs.length = i.size then
        let r := thaw h i.sls cs
        match storeC r.2 p r.1 with
        | some h => some (none, h)
        | none => none
      else none
    | _, _, _ => none
  | .nilCheck x =>
    match ρ x with
    | some (.val false [.d (.ptr ds)]) => some (some (.one (.d (.ptr ds))), h)
    | some (.val false [.d (.fn f)]) => some (some (.one (.d (.fn f))), h)
    | some (.val false [.ptr k o]) => some (some (.one (.ptr k o)), h)
    | some (.val false [.eptr k s i o]) => some (some (.one (.eptr k s i o)), h)
    | some (.val false [.clo f c]) => some (some (.one (.clo f c)), h)
    | _ => none
  | .binOp op t x y _ =>
    match ρ x, ρ y with
    | some x, some y => match binV (match T.info t with | some i => i.eqk | none => []) op x y with | some v => some (some v, h) | none => none
    | _, _ => none
  | .unOp op _ x =>
    match ρ x with
    | some (.val false [.d v]) => match unD op v with | some d => some (some (.dd d), h) | none => none
    | _ => none
  | .convert s t x =>
    match T.info s, T.info t, ρ x with
    | some is, some it, some (.val false [c]) =>
      match c with
      | .d (.str b) =>
        match it.desc with
        | .slice e => match T.info e with
          | some ie => match ie.desc with
            | .int .u8 => if b.length ≤ maxEls then some (some (.one (.arr h.length)), h ++ [.arr false true e 1 (bytesEs b)]) else none
            | _ => none
          | none => none
        | .string => some (some (.dd (.str b)), h)
        | _ => none
      | .d (.slice 1 es) => if byteSl T is.desc it.desc && es.length ≤ maxEls then (match bytesOfEs es with | some s => some (some (.dd (.str s)), h) | none => none) else none
      | .d v => match convD it.desc v with | some d => some (some (.dd d), h) | none => none
      | .arr k =>
        match elemsOf h 1 (.one (.arr k)) with
        | some es => if byteSl T is.desc it.desc && es.length ≤ maxEls then (match bytesOfEs es with | some s => some (some (.dd (.str s)), h) | none => none) else none
        | _ => none
      | _ => T.ext ρ h op type
    | _, _, _ => none
  | .makeFunc (.func f) first caps =>
    match first.toList, evs ρ caps.toList with
    | [], some vs =>
      match caps2 vs with
      | some l => some (some (.one (.clo f l)), h)
      | none => none
    | _, _ => none
  | .makeSlice t l c =>
    match T.info t with
    | some i =>
      match i.desc with
      | .slice e =>
        match T.info e with
        | some ie =>
          match ie.zero, intOf? (ρ l), intOf? (ρ c) with
          | some z, some n, some m =>
            if 0 ≤ n ∧ n = m ∧ n ≤ maxEls ∧ ie.bytes ≤ 65536 ∧ z.length = ie.size ∧ 0 < ie.size then
              some (some (.one (.arr h.length)), h ++ [.arr false false e ie.size (List.replicate n.toNat z)])
            else none
          | _, _, _ => none
        | none => none
      | _ => none
    | none => none
  | .slice t x lo hi none =>
    match T.info t, ρ x with
    | some it, some v =>
      match lenV h v with
      | some n =>
        let l? := match lo with | none => some (0 : Int) | some o => intOf? (ρ o)
        let u? := match hi with | none => some (n : Int) | some o => intOf? (ρ o)
        match l?, u? with
        | some l, some u =>
          if 0 ≤ l ∧ l ≤ u ∧ u ≤ n then
            match it.desc, v with
            | .string, .val false [.d (.str s)] => some (some (.dd (.str ((s.take u.toNat).drop l.toNat))), h)
            | .slice _, .val false [.d (.str _)] => none
            | .slice e, v =>
              match T.info e with
              | some ie =>
                match elemsOf h ie.size v with
                | some es =>
                  let h := match v with | .val _ [.arr k] => (match h[k]? with | some (.arr _ st t _ _) => h.set k (.arr true st t ie.size es) | _ => h) | _ => h
                  some (some (.dd (.slice ie.size ((es.take u.toNat).drop l.toNat))), h)
                | none => none
              | none => none
            | _, _ => none
          else none
        | _, _ => none
      | none => none
    | _, _ => none
  | .fieldAddr s x f =>
    match T.info s, ρ x with
    | some is, some (.val false [p]) =>
      match is.desc with
      | .struct fs =>
        match fs[f]? with
        | some fd =>
          match T.info fd.type with
          | some it =>
            if it.size = 0 then none else
            match p with
            | .ptr k o => some (some (.one (.ptr k (o + fd.offset))), h)
            | .eptr k s i o => some (some (.one (.eptr k s i (o + fd.offset))), h)
            | .d (.ptr ds) => some (some (.one (.d (.ptr (ds.drop fd.offset)))), h)
            | _ => none
          | none => none
        | none => none
      | _ => none
    | _, _ => none
  | .field t x f =>
    match T.info t, ρ x with
    | some it, some (.val true cs) =>
      match it.desc with
      | .struct fs =>
        match fs[f]? with
        | some fd =>
          match T.info fd.type with
          | some i => match mkVal i ((cs.drop fd.offset).take i.size) with | some v => some (some v, h) | none => none
          | none => none
        | none => none
      | _ => none
    | _, _ => none
  | .indexAddr t x i =>
    match T.info t, intOf? (ρ i), ρ x with
    | some it, some n, some (.val false [c]) =>
      match it.desc with
      | .array len e =>
        match T.info e with
        | some ie =>
          if 0 ≤ n ∧ n < len then
            match c with
            | .ptr k o => some (some (.one (.ptr k (o + n.toNat * ie.size))), h)
            | .eptr k s j o => some (some (.one (.eptr k s j (o + n.toNat * ie.size))), h)
            | .d (.ptr ds) => some (some (.one (.d (.ptr (ds.drop (n.toNat * ie.size))))), h)
            | _ => none
          else none
        | none => none
      | .slice e =>
        match T.info e with
        | some ie =>
          match c with
          | .d (.slice s es) =>
            if s = ie.size ∧ 0 ≤ n then
              match es[n.toNat]? with
              | some e => some (some (.one (.d (.ptr e))), h)
              | none => none
            else none
          | .arr k =>
            match h[k]? with
            | some (.arr _ _ _ s es) => if s = ie.size ∧ 0 ≤ n ∧ n < es.length then some (some (.one (.eptr k s n.toNat 0)), h) else none
            | _ => none
          | _ => none
        | none => none
      | _ => none
    | _, _, _ => none
  | .index t x i =>
    match T.info t, intOf? (ρ i), ρ x with
    | some it, some n, some v =>
      match it.desc, v with
      | .string, .val false [.d (.str s)] =>
        if 0 ≤ n then (match s[n.toNat]? with | some b => some (some (.dd (.int .u8 (Int.ofNat b))), h) | none => none) else none
      | .array len e, .val true cs =>
        match T.info e with
        | some ie =>
          if 0 ≤ n ∧ n < len then
            match mkVal ie ((cs.drop (n.toNat * ie.size)).take ie.size) with | some v => some (some v, h) | none => none
          else none
        | none => none
      | _, _ => none
    | _, _, _ => none
  | .extract x i =>
    match ρ x with
    | some (.tup vs) => match vs[i]? with | some (a, cs) => some (some (.val a cs), h) | none => none
    | _ => none
  | .call { callee := .builtin b, args, argTypes } =>
    match b, args.toList, argTypes.toList with
    | .len, [x], [t] =>
      match T.info t with
      | some it =>
        match it.desc with
        | .array n _ => some (some (.dd (.int .i64 n)), h)
        | .string => match ρ x with
          | some (.val false [.d (.str s)]) => some (some (.dd (.int .i64 s.length)), h)
          | _ => none
        | .slice _ => match ρ x with
          | some (.val false [.d (.str _)]) => none
          | some v => match lenV h v with | some n => some (some (.dd (.int .i64 n)), h) | none => none
          | none => none
        | _ => none
      | none => none
    | .append, [s, x], [ts, tx] =>
      match T.info ts, T.info tx with
      | some it, some ix =>
        match it.desc with
        | .slice e =>
          if slStr ix.desc then
            match T.info e, ρ x with
            | some ie, some xv =>
              match elemsOf h ie.size xv, ie.zero with
              | some ys, some z =>
                if ie.bytes ≤ 65536 ∧ 0 < ie.size ∧ z.length = ie.size then
                  match ρ s with
                  | some (.val false [.arr k]) =>
                    match h[k]? with
                    | some (.arr f st t sz es) =>
                      if t = e ∧ sz = ie.size ∧ es.length + ys.length ≤ maxEls then
                        some (some (.one (.arr h.length)), h.set k .dead ++ [.arr f st t sz (es ++ ys)])
                      else none
                    | _ => none
                  | some (.val false [.d .nils]) =>
                    if ys.length ≤ maxEls then
                      some (some (.one (.arr (h.length + 1))), h ++ [.dead, .arr false false e ie.size ys])
                    else none
                  | _ => none
                else none
              | _, _ => none
            | _, _ => none
          else none
        | _ => none
      | _, _ => none
    | .min, x :: xs, _ =>
      match ρ x, evs ρ xs with
      | some (.val false [.d a]), some vs => match minD false a vs with | some d => some (some (.dd d), h) | none => none
      | _, _ => none
    | .max, x :: xs, _ =>
      match ρ x, evs ρ xs with
      | some (.val false [.d a]), some vs => match minD true a vs with | some d => some (some (.dd d), h) | none => none
      | _, _ => none
    | .real, [x], _ => match ρ x with | some (.val false [.d (.cpx k re _)]) => some (some (.dd (.flt k re)), h) | _ => none
    | .imag, [x], _ => match ρ x with | some (.val false [.d (.cpx k _ im)]) => some (some (.dd (.flt k im)), h) | _ => none
    | .complex, [x, y], _ =>
      match ρ x, ρ y with
      | some (.val false [.d (.flt k a)]), some (.val false [.d (.flt k' b)]) => if k = k' then some (some (.dd (.cpx k a b)), h) else none
      | _, _ => none
    | _, _, _ => T.ext ρ h op type
  | _ => T.ext ρ h op type
where
  caps2 : List DV → Option (List (Nat × Nat))
    | [] => some []
    | .val false [.ptr k o] :: r => match caps2 r with | some l => some ((k, o) :: l) | none => none
    | _ => none

/-- Maps; a builder's bytes; pointers without a type. -/
def evalExt (info : TypeId → Option TI) (ρ : Opnd) (h : Heap) (op : Op) (_type : TypeId) : Option (Option DV × Heap) :=
  match op with
  | .makeMap t none =>
    match info t with
    | some i =>
      match i.desc with
      | .map k e =>
        match info k, info e with
        | some ik, some ie => some (some (.one (.map h.length)), h ++ [.map ik.agg ie.agg []])
        | _, _ => none
      | _ => none
    | none => none
  | .lookup t m k ok =>
    match info t, ρ m, ρ k with
    | some it, some (.val false [mc]), some (.val _ kc) =>
      match it.desc with
      | .map _ e =>
        match info e with
        | some ie =>
          match frzL 20 h kc, ie.zero with
          | some (kd, h), some z =>
            let es? := match mc with
              | .map j => match h[j]? with | some (.map _ _ es) => some es | _ => none
              | .d .nilm => some []
              | _ => none
            match es? with
            | some es =>
              match lookupD kd es with
              | some r =>
                match mkVal ie ((r.getD z).map .d) with
                | some (.val a cs) => some (some (if ok then .tup [(a, cs), (false, [.d (.bool r.isSome)])] else .val a cs), h)
                | _ => none
              | none => none
            | none => none
          | _, _ => none
        | none => none
      | _ => none
    | _, _, _ => none
  | .mapUpdate _ m k x =>
    match ρ m, ρ k, ρ x with
    | some (.val false [.map j]), some (.val _ kc), some (.val _ xc) =>
      match frzL 20 h kc with
      | some (kd, h) =>
        match frzL 20 h xc with
        | some (vd, h) =>
          match h[j]? with
          | some (.map ka va es) => match updateD kd vd es with | some es => some (none, h.set j (.map ka va es)) | none => none
          | _ => none
        | none => none
      | none => none
    | _, _, _ => none
  | .convert s t x =>
    match info s, info t, ρ x with
    | some is, some it, some (.val false [.ptr k o]) =>
      match is.desc, it.desc with
      | .pointer _, .unsafePointer => some (some (.one (.ptr k o)), h)
      | .unsafePointer, .pointer _ => some (some (.one (.ptr k o)), h)
      | _, _ => none
    | _, _, _ => none
  | .call { callee := .builtin b, args, .. } =>
    match b, args.toList with
    | .unsafeSliceData, [x] =>
      match ρ x with
      | some (.val false [.arr k]) =>
        match h[k]? with
        | some (.arr _ _ _ _ _) => some (some (.one (.edata k)), h)
        | _ => none
      | _ => none
    | .unsafeString, [p, n] =>
      match ρ p, intOf? (ρ n) with
      | some (.val false [.edata k]), some n =>
        match h[k]? with
        | some (.arr _ false t 1 es) =>
          match bytesOfEs es with
          | some s => if n = es.length then some (some (.dd (.str s)), h.set k (.arr true false t 1 es)) else none
          | none => none
        | _ => none
      | _, _ => none
    | _, _ => none
  | _ => none

/-! What a value leads to; renaming. -/
def C.refs : C → List Nat
  | .ptr k _ | .eptr k _ _ _ | .edata k | .arr k | .map k => [k]
  | .clo _ l => l.map (·.1)
  | _ => []
def DV.refs : DV → List Nat
  | .val _ cs => cs.flatMap C.refs
  | .tup vs => vs.flatMap fun v => v.2.flatMap C.refs
def Ob.refs : Ob → List Nat
  | .box _ cs => cs.flatMap C.refs
  | _ => []
def memN : List Nat → Nat → Bool
  | [], _ => false
  | j :: r, k => if Nat.beq j k then true else memN r k
def reach : Nat → Heap → List Nat → List Nat → List Nat
  | 0, _, acc, _ => acc
  | _ + 1, _, acc, [] => acc
  | n + 1, h, acc, k :: todo =>
    if memN acc k then reach n h acc todo else
    match h[k]? with
    | some o => reach n h (acc ++ [k]) (todo ++ o.refs)
    | none => reach n h acc todo
def idx : List Nat → Nat → Option Nat
  | [], _ => none
  | j :: r, k => if Nat.beq j k then some 0 else (match idx r k with | some i => some (i + 1) | none => none)
def renCaps (f : Nat → Option Nat) : List (Nat × Nat) → Option (List (Nat × Nat))
  | [] => some []
  | (k, o) :: r => match f k, renCaps f r with | some j, some r => some ((j, o) :: r) | _, _ => none
def C.ren (f : Nat → Option Nat) : C → C
  | .ptr k o => match f k with | some j => .ptr j o | none => .dead
  | .eptr k s i o => match f k with | some j => .eptr j s i o | none => .dead
  | .edata k => match f k with | some j => .edata j | none => .dead
  | .arr k => match f k with | some j => .arr j | none => .dead
  | .map k => match f k with | some j => .map j | none => .dead
  | .clo g l => match renCaps f l with | some l => .clo g l | none => .dead
  | c => c
def DV.ren (f : Nat → Option Nat) : DV → DV
  | .val a cs => .val a (cs.map (C.ren f))
  | .tup vs => .tup (vs.map fun v => (v.1, v.2.map (C.ren f)))
def Ob.ren (f : Nat → Option Nat) : Ob → Ob
  | .box b cs => .box b (cs.map (C.ren f))
  | o => o
def sub (h : Heap) (ks : List Nat) : Heap := ks.map fun k => match h[k]? with | some o => o.ren (idx ks) | none => .dead

inductive Ex where
  | normal | exit (id : Nat) | ret

structure St where
  env : Env
  heap : Heap

abbrev CallF := FuncId → List DV → Heap → Option (DV × Heap)

def passC (h : Heap) : List (Nat × Nat) → List C → Option (List C × Heap)
  | ss, c :: cs =>
    let one : Option (C × Heap) := cond (Nat.beq (ss.headD (0, 0)).2 0) (some (c, h)) (match c with
      | .d .nils => some (.d (.slice (ss.headD (0, 0)).2 []), h)
      | .arr k => match frz 20 h (.arr k) with | some (d, h) => some (.d d, h) | none => none
      | c => some (c, h))
    match one with
    | some (c, h) => match passC h ss.tail cs with | some (cs, h) => some (c :: cs, h) | none => none
    | none => none
  | _, [] => some ([], h)
/-- Arguments: slices are handed on as data, or (byref) as they lie. -/
def passArgs (T : Tab) (byref : Bool) (h : Heap) : List TypeId → List DV → Option (List DV × Heap)
  | ts, .val a cs :: vs =>
    let ss := match T.info (ts.headD 0) with | some i => i.sls | none => []
    match (if byref then some (thaw h ss cs) else passC h ss cs) with
    | some (cs, h) => match passArgs T byref h ts.tail vs with | some (vs, h) => some (.val a cs :: vs, h) | none => none
    | none => none
  | _, [] => some ([], h)
  | _, _ => none

def snapV (h : Heap) : DV → DV
  | .val a cs => .val a (cs.map fun c => .d (snapC 20 h c))
  | .tup vs => .tup (vs.map fun v => (v.1, v.2.map fun c => .d (snapC 20 h c)))
def scalarD : D → Bool
  | .int _ _ | .bool _ | .str _ | .flt _ _ | .cpx _ _ _ => true
  | _ => false
def scalarV : DV → Bool
  | .val _ cs => cs.all fun | .d x => scalarD x | _ => false
  | .tup vs => vs.all fun v => v.2.all fun | .d x => scalarD x | _ => false
def dataV : DV → Bool
  | .val _ cs => cs.all fun | .d _ => true | _ => false
  | .tup vs => vs.all fun v => v.2.all fun | .d _ => true | _ => false

def setAll (h : Heap) : List Nat → List Ob → Heap
  | k :: ks, o :: os => setAll (h.set k o) ks os
  | _, _ => h

/-- A call as the caller sees it: what the arguments lead to is handed on, renamed. -/
def callI (T : Tab) (call : CallF) (f : FuncId) (ts : List TypeId) (args : List DV) (h : Heap) : Option (DV × Heap) :=
  match T.prim f with
  | some (.fn g) =>
    match passArgs T false h ts args with
    | some (args, h) => if args.all dataV then (match g args with | some r => if dataV r then some (r, h) else none | none => none) else none
    | none => none
  | some .ident => match args with | [v] => some (v, h) | _ => none
  | some .clone =>
    match passArgs T false h ts args with
    | some ([.val false [.d (.slice sz es)]], h) =>
      match T.info (ts.headD 0) with
      | some it => match it.desc with | .slice e => some (.one (.arr h.length), h ++ [.arr false false e sz es]) | _ => none
      | none => none
    | _ => none
  | none =>
    if T.snap f then
      match call f (args.map (snapV h)) [] with
      | some (r, []) => if scalarV r then some (r, h) else none
      | _ => none
    else
      match passArgs T (T.byref f) h ts args with
      | some (args, h) =>
        let ks := reach 1000 h [] (args.flatMap DV.refs)
        match call f (args.map (DV.ren (idx ks))) (sub h ks) with
        | some (r, hh) =>
          let m := ks.length
          let back (j : Nat) : Option Nat := if j < m then ks[j]? else some (h.length + (j - m))
          let hh := hh.map (Ob.ren back)
          some (r.ren back, setAll h ks (hh.take m) ++ hh.drop m)
        | none => none
      | none => none

def opnd (T : Tab) (env : Env) : Opnd
  | .tmp t => env.get t
  | .const v => constDV v
  | .global g => match T.glob g with | some ds => some (.one (.d (.ptr ds))) | none => none
  | .func f => some (.one (.d (.fn f)))

/-- An operation, a call among them. -/
def runOp (T : Tab) (call : CallF) (mv : Bool) (ρ : Opnd) (h : Heap) (o : Oper) : Option (Option DV × Heap) :=
  match o.op with
  | .slice t x none (some u) none =>
    if mv then
      match T.info t, ρ x, intOf? (ρ u) with
      | some it, some (.val false [.arr k]), some u =>
        match it.desc, h[k]? with
        | .slice e, some (.arr false st t sz es) =>
          match T.info e with
          | some ie => if sz = ie.size ∧ 0 ≤ u ∧ u ≤ es.length then some (some (.one (.arr h.length)), h.set k .dead ++ [.arr false st t sz (es.take u.toNat)]) else none
          | none => none
        | _, _ => none
      | _, _, _ => none
    else evalOp T ρ h o.op o.type
  | .call { callee := .value c, args, argTypes } =>
    match ρ c, evs ρ args.toList with
    | some (.val false [.d (.fn f)]), some vs => match callI T call f argTypes.toList vs h with | some (v, h) => some (some v, h) | none => none
    | some (.val false [.clo f l]), some vs =>
      match callI T call f argTypes.toList (vs ++ l.map fun (k, o) => .one (.ptr k o)) h with | some (v, h) => some (some v, h) | none => none
    | _, _ => none
  | op => evalOp T ρ h op o.type

def wantedI (ops : Array Oper) (env : Env) (o : Oper) : Option Bool :=
  match o.guard with
  | none => some true
  | some (j, want) => match (ops[j]?).bind (·.dst) with
    | some d => match env.get d with
      | some (.val false [.d (.bool b)]) => some (b == want)
      | some (.tup []) => some false
      | _ => none
    | none => some false

def putO (env : Env) (dst : Option Nat) (v : Option DV) : Env :=
  match dst with
  | some d => (d, match v with | some v => v | none => .tup []) :: env
  | none => env
def dstOk (nt : Nat) : Option Nat → Bool
  | some d => Nat.blt d nt
  | none => true

def runOps (T : Tab) (call : CallF) (mv : Bool) (nt : Nat) (ops : Array Oper) : List Oper → St → Option St
  | [], s => some s
  | o :: rest, s =>
    if dstOk nt o.dst then
      match wantedI ops s.env o with
      | some true =>
        match runOp T call mv (opnd T s.env) s.heap o with
        | none => none
        | some (v, h) => runOps T call mv nt ops rest ⟨putO s.env o.dst v, h⟩
      | some false => runOps T call mv nt ops rest ⟨putO s.env o.dst none, s.heap⟩
      | none => none
    else none

/-! A region whose order is open. -/
inductive Touch where
  | none
  | reads (ks : List Nat)
  | writes (ks : List Nat)
def touch (T : Tab) (ρ : Opnd) (h : Heap) (o : Oper) : Touch :=
  let rs (x : Operand) : List Nat := match ρ x with | some v => v.refs | none => []
  let all (l : List Nat) : Touch := match reach 1000 h [] l with | [] => .none | ks => .writes ks
  match o.op with
  | .move _ | .pick .. | .alloc _ | .box .. | .build .. | .nilCheck _ | .binOp .. | .unOp .. | .fieldAddr .. | .field .. | .index ..
  | .extract .. | .makeFunc .. | .makeMap .. | .makeSlice .. | .assign _ => .none
  | .load _ p => match rs p with | [] => .none | ks => .reads ks
  | .indexAddr _ x _ => match rs x with | [] => .none | ks => .reads ks
  | .call { callee := .builtin .len, args, .. } | .call { callee := .builtin .unsafeSliceData, args, .. } => match (args.toList.flatMap rs) with | [] => .none | ks => .reads ks
  | .call { callee := .value c, args, .. } =>
    let l := rs c ++ args.toList.flatMap rs
    match ρ c with
    | some (.val false [.d (.fn f)]) => if T.snap f then (match reach 1000 h [] l with | [] => .none | ks => .reads ks) else all l
    | _ => all l
  | .store _ p x => match ρ p with
    | some (.val false [.ptr k _]) => .writes [k]
    | _ => all (rs p ++ rs x)
  | op => all (op.operands.toList.flatMap rs)

def Touch.keys : Touch → List Nat
  | .none => []
  | .reads ks | .writes ks => ks
def Touch.clash : Touch → Touch → Bool
  | .writes a, .writes b | .writes a, .reads b | .reads a, .writes b => a.any (memN b)
  | _, _ => false

structure Past where
  i : Nat
  touch : Touch
  lo : Nat
  hi : Nat

def maskFrom (ks : List Nat) : Nat → Heap → Heap
  | _, [] => []
  | i, o :: h => (if memN ks i then o else .dead) :: maskFrom ks (i + 1) h
def mergeFrom (ks : List Nat) : Nat → Heap → Heap → Heap
  | _, [], h' => h'
  | i, o :: h, o' :: h' => (if memN ks i then o' else o) :: mergeFrom ks (i + 1) h h'
  | _, h, [] => h

def apart (before : Nat) (t : Touch) : List Past → Bool
  | [] => true
  | p :: r => (before.testBit p.i || (!(t.clash p.touch) && t.keys.all fun k => k < p.lo || p.hi ≤ k)) && apart before t r

/-- What an operation may look at: the names that it names, when all that they lead to is there. -/
def opnd1 (T : Tab) (env : Env) (n : Nat) (o : Oper) : Opnd := fun x =>
  match x with
  | .tmp t =>
    if o.op.operands.toList.any (fun y => match y with | .tmp u => Nat.beq u t | _ => false) then
      match env.get t with
      | some v => if v.refs.all fun k => Nat.blt k n then some v else none
      | none => none
    else none
  | x => opnd T env x

def wfKeys (h : Heap) (ks : List Nat) : Bool := ks.all fun k => match h[k]? with | some o => o.refs.all fun j => Nat.blt j h.length | none => true

def runDraw (T : Tab) (call : CallF) (mv : Bool) (nt : Nat) (ops : Array Oper) (before : List Nat) : Nat → List Oper → List Past → St → Option St
  | _, [], _, s => some s
  | i, o :: rest, past, s =>
    if dstOk nt o.dst then
      match wantedI ops s.env o with
      | some true =>
        let ρ := opnd1 T s.env s.heap.length o
        let t := touch T ρ s.heap o
        if apart (before.headD 0) t past && wfKeys s.heap t.keys then
          match runOp T call mv ρ (maskFrom t.keys 0 s.heap) o with
          | none => none
          | some (v, hm) =>
            if Nat.ble s.heap.length hm.length then
              let h := match t with
                | .reads _ => s.heap
                | t => mergeFrom t.keys 0 s.heap hm
              runDraw T call mv nt ops before.tail (i + 1) rest (⟨i, t, s.heap.length, h.length⟩ :: past) ⟨putO s.env o.dst v, h⟩
            else none
        else none
      | some false => runDraw T call mv nt ops before.tail (i + 1) rest past ⟨putO s.env o.dst none, s.heap⟩
      | none => none
    else none

def filterEnv (keys : List Nat) (e : Env) : Env :=
  keys.filterMap fun t => match e.get t with | some v => some (t, v) | none => none

/-- What is kept at a loop's head: the names that were there at its entry; memory that they lead to, renamed. -/
def frzEnv (fz : List Nat) (h : Heap) : Env → Option (Env × Heap)
  | [] => some ([], h)
  | (t, v) :: e =>
    match (if memN fz t then (match v with
        | .val a cs => match frzL 20 h cs with | some (ds, h) => some (DV.val a (ds.map .d), h) | none => none
        | v => some (v, h)) else some (v, h)) with
    | some (v, h) => match frzEnv fz h e with | some (e, h) => some ((t, v) :: e, h) | none => none
    | none => none
def norm (m : Nat) (keys fz : List Nat) (s : St) : Option St :=
  match frzEnv fz s.heap (filterEnv keys s.env) with
  | some (env, h) =>
    let ks := reach 1000 h (List.range m) ((h.take m).flatMap Ob.refs ++ env.flatMap fun x => x.2.refs)
    some ⟨env.map fun x => (x.1, x.2.ren (idx ks)), sub h ks⟩
  | none => none

def iter (body : St → Option (Ex × St)) (nrm : St → Option St) : Nat → St → Option (Ex × St)
  | 0, _ => none
  | n + 1, s =>
    match nrm s with
    | some s =>
      match body s with
      | some (.normal, s) => iter body nrm n s
      | r => r
    | none => none

/-- What a function is run by: what outlives a region, what is frozen at which loop's head; rounds; how much memory came in. -/
structure Fr where
  live : List Nat
  fz : Nat → List Nat
  mv : Bool
  n : Nat
  m : Nat
  nt : Nat

def runCode (T : Tab) (call : CallF) (F : Fr) (blk : Nat) : Code → St → Option (Ex × St)
  | .skip, s => some (.normal, s)
  | .region _ ops draw, s =>
    match (if draw then runDraw T call F.mv F.nt ops (Region.before ops).toList 0 ops.toList [] s else runOps T call F.mv F.nt ops ops.toList s) with
    | some s => some (.normal, ⟨filterEnv F.live s.env, s.heap⟩)
    | none => none
  | .seq a b, s =>
    match runCode T call F blk a s with
    | some (.normal, s) => runCode T call F blk b s
    | r => r
  | .cond c a b, s =>
    match opnd T s.env c with
    | some (.val false [.d (.bool x)]) => cond x (runCode T call F blk a s) (runCode T call F blk b s)
    | _ => none
  | .block id a, s =>
    match runCode T call F id a s with
    | some (.exit j, s) => if Nat.beq j id then some (.normal, s) else some (.exit j, s)
    | r => r
  | .loop a, s => iter (runCode T call F blk a) (norm F.m (s.env.map (·.1)) (F.fz blk)) F.n s
  | .exit id, s => some (.exit id, s)
  | .ret, s => some (.ret, s)
  | _, _ => none

def resultsI (T : Tab) (s : St) : List ResultVar → Option (List (Bool × List C))
  | [] => some []
  | r :: rs =>
    let v : Option DV := match r with
      | .tmp t => s.env.get t
      | .cell a t => match T.info t, s.env.get a with
        | some i, some (.val false [p]) => match loadC s.heap p i.size with | some cs => mkVal i cs | none => none
        | _, _ => none
    match v, resultsI T s rs with
    | some (.val a cs), some vs => some ((a, cs) :: vs)
    | _, _ => none

def frzVs (h : Heap) : List (Bool × List C) → Option (List (Bool × List C) × Heap)
  | [] => some ([], h)
  | (a, cs) :: r =>
    match frzL 20 h cs with
    | some (ds, h) => match frzVs h r with | some (r, h) => some ((a, ds.map .d) :: r, h) | none => none
    | none => none

/-- A result's nil slices, as data of no elements. -/
def nilC (s : Nat × Nat) (c : C) : C := cond (Nat.blt 0 s.2 && isNils c) (.d (.slice s.2 [])) c
def nilCs : List (Nat × Nat) → List C → List C
  | s :: ss, c :: cs => nilC s c :: nilCs ss cs
  | _, cs => cs
def nilVs : List (List (Nat × Nat)) → List (Bool × List C) → List (Bool × List C)
  | ss :: sss, (a, cs) :: vs => (a, nilCs ss cs) :: nilVs sss vs
  | _, vs => vs
def slsOf (T : Tab) (t : TypeId) : List (Nat × Nat) := match T.info t with | some i => i.sls | none => []

/-- Arrays that came in are handed out anew: so what goes out has one form, whether they grew or not. -/
def mvRef (k j : Nat) : Nat → Option Nat := fun i => if Nat.beq i k then some j else some i
def moveOut : List Nat → Heap → List (Bool × List C) → Heap × List (Bool × List C)
  | [], h, vs => (h, vs)
  | k :: ks, h, vs =>
    match h[k]? with
    | some (.arr fz st t sz es) => moveOut ks ((h.set k .dead ++ [Ob.arr fz st t sz es]).map (Ob.ren (mvRef k h.length))) (vs.map fun v => (v.1, v.2.map (C.ren (mvRef k h.length))))
    | _ => moveOut ks h vs

def mkRes : List (Bool × List C) → DV
  | [(a, cs)] => .val a cs
  | vs => .tup vs

def runF (T : Tab) : Nat → CallF
  | 0, _, _, _ => none
  | n + 1, f, args, h =>
    match T.func f with
    | some fn =>
      match fn.body with
      | some body =>
        let m := h.length
        let env : Env := args.zipIdx.map fun x => (x.2, x.1)
        match runCode T (runF T n) ⟨T.live f, T.fzAt f, T.mv f, n, m, fn.ntmps⟩ 0 body ⟨env, h⟩ with
        | some (.exit _, _) => none
        | some (_, s) =>
          match resultsI T s fn.results.toList with
          | some vs =>
            match (if T.keep f then some (vs, s.heap) else (match frzVs s.heap vs with | some (vs, h) => some (nilVs (fn.resultTypes.toList.map (slsOf T)) vs, h) | none => none)) with
            | some (vs, h) =>
              let q := moveOut (T.mvout f) h vs
              let h := q.1
              let vs := q.2
              let ks := reach 1000 h (List.range m) ((h.take m).flatMap Ob.refs ++ vs.flatMap fun v => v.2.flatMap C.refs)
              some ((mkRes vs).ren (idx ks), sub h ks)
            | none => none
          | none => none
        | none => none
      | none => none
    | none => none

end Go.Idl
