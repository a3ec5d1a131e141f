/- Part of a proof that the laws of this seat return true: a machine over plain data (Idl) that is sound for the given model, and its runs. Conditions: none. -/
import Derived.Test.YtemfbebfodagpaaMono
set_option linter.all false
set_option linter.unusedVariables false
namespace Go.Idl
open Go

/-! Shapes: what a cell, a value, an object look like; the rest is a tuple of plain values. -/
inductive Sh where
  | int (k : IntKind) | bool | str | flt | cpx | sl (sz : Nat) | any
def Sh.T : Sh → Type
  | .int _ => Int
  | .bool => Bool
  | .str => List Nat
  | .flt => Nat
  | .cpx => Nat × Nat
  | .sl _ => List (List D)
  | .any => D
def Sh.d : (s : Sh) → s.T → D
  | .int k, x => .int k x
  | .bool, x => .bool x
  | .str, x => .str x
  | .flt, x => .flt .f64 x
  | .cpx, x => .cpx .f64 x.1 x.2
  | .sl n, x => .slice n x
  | .any, x => x
def Sh.of : (s : Sh) → D → Option s.T
  | .int k, .int k' x => if k = k' then some x else none
  | .bool, .bool x => some x
  | .str, .str x => some x
  | .flt, .flt .f64 x => some x
  | .cpx, .cpx .f64 x y => some (x, y)
  | .sl n, .slice m x => if n = m then some x else none
  | .any, x => some x
  | _, _ => none
theorem Sh.of_eq {s : Sh} {d : D} {x : s.T} (e : s.of d = some x) : d = s.d x := by
  unfold Sh.of at e
  split at e
  · split at e
    · rename_i h; subst h; cases e; rfl
    · cases e
  · cases e; rfl
  · cases e; rfl
  · cases e; rfl
  · cases e; rfl
  · split at e
    · rename_i h; subst h; cases e; rfl
    · cases e
  · cases e; rfl
  · cases e
def Vs : List Sh → Type
  | [] => Unit
  | s :: ss => s.T × Vs ss
def Vs.ds : (ss : List Sh) → Vs ss → List D
  | [], _ => []
  | s :: ss, v => s.d v.1 :: Vs.ds ss v.2
def Vs.of : (ss : List Sh) → List D → Option (Vs ss)
  | [], [] => some ()
  | s :: ss, d :: ds => match s.of d, Vs.of ss ds with | some x, some v => some (x, v) | _, _ => none
  | _, _ => none
theorem Vs.of_eq : ∀ {ss : List Sh} {ds : List D} {v : Vs ss}, Vs.of ss ds = some v → ds = Vs.ds ss v := by
  intro ss
  induction ss with
  | nil => intro ds v e; cases ds with | nil => rfl | cons d ds => simp [Vs.of] at e
  | cons s ss ih =>
    intro ds v e
    cases ds with
    | nil => simp [Vs.of] at e
    | cons d ds =>
      simp only [Vs.of] at e
      split at e
      · rename_i x w h1 h2
        cases e
        rw [Sh.of_eq h1, ih h2]
        rfl
      · cases e
def eqRef : C → C → Bool
  | .ptr k o, .ptr k' o' => Nat.beq k k' && Nat.beq o o'
  | .arr k, .arr k' => Nat.beq k k'
  | .map k, .map k' => Nat.beq k k'
  | .edata k, .edata k' => Nat.beq k k'
  | _, _ => false
theorem eqRef_eq {c c' : C} (e : eqRef c c' = true) : c' = c := by
  unfold eqRef at e
  split at e
  · simp only [Bool.and_eq_true] at e; rw [Nat.eq_of_beq_eq_true e.1, Nat.eq_of_beq_eq_true e.2]
  · rw [Nat.eq_of_beq_eq_true e]
  · rw [Nat.eq_of_beq_eq_true e]
  · rw [Nat.eq_of_beq_eq_true e]
  · cases e
inductive CSh where
  | d (s : Sh) | ref (c : C)
def CSh.T : CSh → Type
  | .d s => s.T
  | .ref _ => Unit
def CSh.mk : (s : CSh) → s.T → C
  | .d s, x => .d (s.d x)
  | .ref r, _ => r
def CSh.of : (s : CSh) → C → Option s.T
  | .d s, .d x => s.of x
  | .ref r, c' => cond (eqRef r c') (some ()) none
  | _, _ => none
theorem cond_some {α : Type} {b : Bool} {x : Option α} {v : α} (e : cond b x none = some v) : b = true ∧ x = some v := by
  cases b with
  | true => exact ⟨rfl, e⟩
  | false => cases e
theorem CSh.of_eq {s : CSh} {c : C} {x : s.T} (e : s.of c = some x) : c = s.mk x := by
  cases s with
  | d s =>
    cases c with
    | d y => exact congrArg C.d (Sh.of_eq (s := s) e)
    | _ => cases e
  | ref r =>
    have e2 : cond (eqRef r c) (some ()) (none : Option Unit) = some x := by cases c <;> exact e
    exact eqRef_eq (cond_some e2).1
def CVs : List CSh → Type
  | [] => Unit
  | s :: ss => s.T × CVs ss
def CVs.cs : (ss : List CSh) → CVs ss → List C
  | [], _ => []
  | s :: ss, v => s.mk v.1 :: CVs.cs ss v.2
def CVs.of : (ss : List CSh) → List C → Option (CVs ss)
  | [], [] => some ()
  | s :: ss, d :: ds => match s.of d, CVs.of ss ds with | some x, some v => some (x, v) | _, _ => none
  | _, _ => none
theorem CVs.of_eq : ∀ {ss : List CSh} {ds : List C} {v : CVs ss}, CVs.of ss ds = some v → ds = CVs.cs ss v := by
  intro ss
  induction ss with
  | nil => intro ds v e; cases ds with | nil => rfl | cons d ds => simp [CVs.of] at e
  | cons s ss ih =>
    intro ds v e
    cases ds with
    | nil => simp [CVs.of] at e
    | cons d ds =>
      simp only [CVs.of] at e
      split at e
      · rename_i x w h1 h2
        cases e
        rw [CSh.of_eq h1, ih h2]
        rfl
      · cases e
inductive OSh where
  | box (fz : Bool) (cs : List CSh) | arr (fz st : Bool) (t sz : Nat) | map (ka va : Bool) | dead
def OSh.T : OSh → Type
  | .box _ cs => CVs cs
  | .arr _ _ _ _ => List (List D)
  | .map _ _ => List (List D × List D)
  | .dead => Unit
def OSh.mk : (s : OSh) → s.T → Ob
  | .box fz cs, v => .box fz (CVs.cs cs v)
  | .arr fz st t sz, es => .arr fz st t sz es
  | .map ka va, es => .map ka va es
  | .dead, _ => .dead
def OSh.of : (s : OSh) → Ob → Option s.T
  | .box fz cs, .box fz' c => cond (fz == fz') (CVs.of cs c) none
  | .arr fz st t sz, .arr fz' st' t' sz' es => cond (fz == fz' && (st == st' && (t == t' && sz == sz'))) (some es) none
  | .map ka va, .map ka' va' es => cond (ka == ka' && va == va') (some es) none
  | .dead, .dead => some ()
  | _, _ => none
theorem OSh.of_eq {s : OSh} {o : Ob} {v : s.T} (e : s.of o = some v) : o = s.mk v := by
  cases s with
  | box fz cs =>
    cases o with
    | box fz' c =>
      obtain ⟨h, e2⟩ := cond_some (α := CVs cs) e
      rw [← eq_of_beq h, CVs.of_eq e2]; rfl
    | _ => cases e
  | arr fz st t sz =>
    cases o with
    | arr fz' st' t' sz' es =>
      obtain ⟨h, e2⟩ := cond_some (α := List (List D)) e
      simp only [Bool.and_eq_true, beq_iff_eq] at h
      obtain ⟨h1, h2, h3, h4⟩ := h
      cases e2
      rw [← h1, ← h2, ← h3, ← h4]; rfl
    | _ => cases e
  | map ka va =>
    cases o with
    | map ka' va' es =>
      obtain ⟨h, e2⟩ := cond_some (α := List (List D × List D)) e
      simp only [Bool.and_eq_true, beq_iff_eq] at h
      cases e2
      rw [← h.1, ← h.2]; rfl
    | _ => cases e
  | dead =>
    cases o with
    | dead => rfl
    | _ => cases e
def HVs : List OSh → Type
  | [] => Unit
  | s :: ss => s.T × HVs ss
def HVs.h : (ss : List OSh) → HVs ss → Heap
  | [], _ => []
  | s :: ss, v => s.mk v.1 :: HVs.h ss v.2
def HVs.of : (ss : List OSh) → Heap → Option (HVs ss)
  | [], [] => some ()
  | s :: ss, d :: ds => match s.of d, HVs.of ss ds with | some x, some v => some (x, v) | _, _ => none
  | _, _ => none
theorem HVs.of_eq : ∀ {ss : List OSh} {ds : Heap} {v : HVs ss}, HVs.of ss ds = some v → ds = HVs.h ss v := by
  intro ss
  induction ss with
  | nil => intro ds v e; cases ds with | nil => rfl | cons d ds => simp [HVs.of] at e
  | cons s ss ih =>
    intro ds v e
    cases ds with
    | nil => simp [HVs.of] at e
    | cons d ds =>
      simp only [HVs.of] at e
      split at e
      · rename_i x w h1 h2
        cases e
        rw [OSh.of_eq h1, ih h2]
        rfl
      · cases e
def VVs : List (Bool × List CSh) → Type
  | [] => Unit
  | s :: ss => CVs s.2 × VVs ss
def VVs.vs : (ss : List (Bool × List CSh)) → VVs ss → List (Bool × List C)
  | [], _ => []
  | s :: ss, v => (s.1, CVs.cs s.2 v.1) :: VVs.vs ss v.2
def VVs.of : (ss : List (Bool × List CSh)) → List (Bool × List C) → Option (VVs ss)
  | [], [] => some ()
  | s :: ss, d :: ds => match (if s.1 = d.1 then CVs.of s.2 d.2 else none), VVs.of ss ds with | some x, some v => some (x, v) | _, _ => none
  | _, _ => none
theorem VVs.of_eq : ∀ {ss : List (Bool × List CSh)} {ds : List (Bool × List C)} {v : VVs ss}, VVs.of ss ds = some v → ds = VVs.vs ss v := by
  intro ss
  induction ss with
  | nil => intro ds v e; cases ds with | nil => rfl | cons d ds => simp [VVs.of] at e
  | cons s ss ih =>
    intro ds v e
    cases ds with
    | nil => simp [VVs.of] at e
    | cons d ds =>
      simp only [VVs.of] at e
      split at e
      · rename_i x w h1 h2
        cases e
        split at h1
        · rename_i hs
          rw [ih h2]
          simp only [VVs.vs, ← CVs.of_eq h1, hs]
        · cases h1
      · cases e
structure RS where
  vals : List (Bool × List CSh)
  heap : List OSh
def RS.T (s : RS) : Type := VVs s.vals × HVs s.heap
def RS.mk' (s : RS) (v : s.T) : DV × Heap := (mkRes (VVs.vs s.vals v.1), HVs.h s.heap v.2)
def unRes : DV → List (Bool × List C)
  | .val a cs => [(a, cs)]
  | .tup vs => vs
def tupOk : DV → Bool
  | .val _ _ => true
  | .tup vs => !Nat.beq vs.length 1
theorem unRes_eq {r : DV} (h : tupOk r = true) : mkRes (unRes r) = r := by
  cases r with
  | val a cs => rfl
  | tup vs =>
    simp only [unRes]
    match vs, h with
    | [], _ => rfl
    | [x], h => simp [tupOk] at h
    | x :: y :: l, _ => rfl
def RS.of (s : RS) (r : DV × Heap) : Option s.T :=
  cond (tupOk r.1) (match VVs.of s.vals (unRes r.1), HVs.of s.heap r.2 with | some a, some b => some (a, b) | _, _ => none) none
theorem RS.of_eq {s : RS} {r : DV × Heap} {v : s.T} (e : s.of r = some v) : r = s.mk' v := by
  unfold RS.of at e
  cases ht : tupOk r.1 with
  | false => rw [ht] at e; cases e
  | true =>
    rw [ht] at e
    simp only [cond_true] at e
    split at e
    · rename_i a b h1 h2
      cases e
      obtain ⟨r, h⟩ := r
      simp only [RS.mk', ← VVs.of_eq h1, ← HVs.of_eq h2]
      rw [unRes_eq ht]
    · cases e

/-! What a run may ask; all else is reckoned. -/
structure Fx (R : Type) where
  ptr : D → (List D → Option R) → Option R
  load : List D → (ss : List Sh) → (Vs ss → Option R) → Option R
  el : List (List D) → Nat → (ss : List Sh) → (Vs ss → Option R) → Option R
  elp : List (List D) → Int → (List D → Option R) → Option R
  byte : List Nat → Int → (Nat → Option R) → Option R
  chk : Bool → Option R → Option R
  isnil : D → Option R → Option R → Option R
  nn : D → Option R → Option R
  bytes : List (List D) → (List Nat → Option R) → Option R
  fop : Bool → FloatKind → Nat → Nat → (Nat → Option R) → Option R
  f2i : FloatKind → IntKind → Nat → (Int → Option R) → Option R
  look : List D → List (List D × List D) → (ss : List Sh) → (Vs ss → Option R) → Option R → Option R
  upd : List D → List D → List (List D × List D) → (List (List D × List D) → Option R) → Option R
  prim : FuncId → List DV → (s : RS) → (s.T → Option R) → Option R
  call : FuncId → List DV → Heap → (s : RS) → (s.T → Option R) → Option R
  lp : Nat → Code → St → (Ex → St → Option R) → Option R

/-- What the tool lays beside the table: shapes of types, of functions' results. Nothing is asked of them. -/
structure KT where
  sh : TypeId → List Sh
  sig : FuncId → List DV → Heap → RS
  ext : Bool

section
variable {R : Type} (T : Tab) (kt : KT) (fx : Fx R)
abbrev Kont (R : Type) := Option DV → Heap → Option R

def plainK (mv : Bool) (ρ : Opnd) (h : Heap) (o : Oper) (k : Kont R) : Option R :=
  match runOp T (fun _ _ _ => none) mv ρ h o with
  | some (v, h) => k v h
  | none => none
def mkK (i : TI) (cs : List C) (h : Heap) (k : Kont R) : Option R := match mkVal i cs with | some v => k (some v) h | none => none

def loadK (ρ : Opnd) (h : Heap) (t : TypeId) (p : Operand) (dflt : Option R) (k : Kont R) : Option R :=
  match T.info t, ρ p with
  | some i, some (.val false [.d d]) => fx.ptr d fun ds => cond (Nat.beq (kt.sh t).length i.size) (fx.load ds (kt.sh t) fun v => mkK i ((Vs.ds (kt.sh t) v).map .d) h k) none
  | some i, some (.val false [.eptr q s j off]) =>
    match h[q]? with
    | some (.arr _ _ t' sz es) =>
      cond (Nat.beq s sz) (fx.el es j (kt.sh t') fun v =>
        cond (Nat.beq (((Vs.ds (kt.sh t') v).drop off).take i.size).length i.size) (mkK i ((((Vs.ds (kt.sh t') v).drop off).take i.size).map .d) h k) none) none
    | _ => none
  | _, _ => dflt
def storeK (ρ : Opnd) (h : Heap) (t : TypeId) (p x : Operand) (dflt : Option R) (k : Kont R) : Option R :=
  match ρ p with
  | some (.val false [.eptr q s j off]) =>
    match T.info t, ρ x with
    | some i, some (.val _ cs) =>
      cond (Nat.beq cs.length i.size) (
        match frzL 20 (thaw h i.sls cs).2 (thaw h i.sls cs).1 with
        | some (ds, h) =>
          match h[q]? with
          | some (.arr false st t' sz es) =>
            cond (Nat.beq s sz) (fx.el es j (kt.sh t') fun v =>
              cond (Nat.ble (off + ds.length) (Vs.ds (kt.sh t') v).length) (k none (h.set q (.arr false st t' sz (es.set j (setC (Vs.ds (kt.sh t') v) off ds))))) none) none
          | _ => none
        | none => none) none
    | _, _ => none
  | _ => dflt
def idxK (n : Int) (i : Nat) : Nat → (Nat → Option R) → Option R
  | 0, _ => none
  | m + 1, k => cond (n == (Int.ofNat i)) (k i) (idxK n (i + 1) m k)
def indexAddrK (ρ : Opnd) (h : Heap) (t : TypeId) (x i : Operand) (k : Kont R) : Option R :=
  match T.info t, intOf? (ρ i), ρ x with
  | some it, some n, some (.val false [c]) =>
    match it.desc with
    | .array len e =>
      match T.info e with
      | some ie =>
        match c with
        | .ptr q o => idxK n 0 len fun j => k (some (.one (.ptr q (o + j * ie.size)))) h
        | .eptr q s j o => idxK n 0 len fun j' => k (some (.one (.eptr q s j (o + j' * ie.size)))) h
        | .d d => fx.ptr d fun ds => idxK n 0 len fun j => k (some (.one (.d (.ptr (ds.drop (j * ie.size)))))) h
        | _ => none
      | none => none
    | .slice e =>
      match T.info e with
      | some ie =>
        match c with
        | .d (.slice s es) => cond (Nat.beq s ie.size) (fx.elp es n fun e => k (some (.one (.d (.ptr e)))) h) none
        | .arr q =>
          match h[q]? with
          | some (.arr _ _ _ s es) => cond (Nat.beq s ie.size) (fx.chk (decide (0 ≤ n) && decide (n < es.length)) (k (some (.one (.eptr q s n.toNat 0))) h)) none
          | _ => none
        | _ => none
      | none => none
    | _ => none
  | _, _, _ => none
def fieldAddrK (ρ : Opnd) (h : Heap) (s : TypeId) (x : Operand) (f : Nat) (dflt : Option R) (k : Kont R) : Option R :=
  match ρ x with
  | some (.val false [.d d]) =>
    match T.info s with
    | some is =>
      match is.desc with
      | .struct fs =>
        match fs[f]? with
        | some fd =>
          match T.info fd.type with
          | some it => cond (Nat.beq it.size 0) none (fx.ptr d fun ds => k (some (.one (.d (.ptr (ds.drop fd.offset))))) h)
          | none => none
        | none => none
      | _ => none
    | none => none
  | _ => dflt
def indexK (ρ : Opnd) (h : Heap) (t : TypeId) (x i : Operand) (k : Kont R) : Option R :=
  match T.info t, intOf? (ρ i), ρ x with
  | some it, some n, some v =>
    match it.desc with
    | .string => match v with
      | .val false [.d (.str s)] => fx.byte s n fun b => k (some (.dd (.int .u8 (Int.ofNat b)))) h
      | _ => none
    | .array len e => match v with
      | .val true cs => match T.info e with
        | some ie => idxK n 0 len fun j => mkK ie ((cs.drop (j * ie.size)).take ie.size) h k
        | none => none
      | _ => none
    | _ => none
  | _, _, _ => none
def nilCheckK (ρ : Opnd) (h : Heap) (x : Operand) (dflt : Option R) (k : Kont R) : Option R :=
  match ρ x with
  | some (.val false [.d d]) => fx.nn d (k (some (.one (.d d))) h)
  | _ => dflt
def isNilO : Operand → Bool
  | .const (.pointer none) => true
  | _ => false
def nilK (ρ : Opnd) (h : Heap) (op : BinOp) (t : TypeId) (x : Operand) (dflt : Option R) (k : Kont R) : Option R :=
  match ρ x with
  | some (.val false [.d d]) =>
    match T.info t with
    | some i => match i.eqk with
      | [5] => match op with
        | .eql => fx.isnil d (k (some (.dd (.bool true))) h) (k (some (.dd (.bool false))) h)
        | .neq => fx.isnil d (k (some (.dd (.bool false))) h) (k (some (.dd (.bool true))) h)
        | _ => dflt
      | _ => dflt
    | none => dflt
  | _ => dflt
def arithK (op : BinOp) (x y : DV) (h : Heap) (dflt : Option R) (k : Kont R) : Option R :=
  match x, y with
  | .val false [.d (.int q a)], .val false [.d (.int q' b)] =>
    match op with
    | .quo => if q = q' then fx.chk (!(b == 0)) (k (some (.dd (.int q (q.wrap (a.tdiv b))))) h) else none
    | .rem => if q = q' then fx.chk (!(b == 0)) (k (some (.dd (.int q (a.tmod b)))) h) else none
    | .shl => fx.chk (!(decide (b < 0))) (k (some (.dd (.int q (q.wrap (a * 2 ^ (min b.toNat q.bits)))))) h)
    | .shr => fx.chk (!(decide (b < 0))) (k (some (.dd (.int q (a.fdiv (2 ^ (min b.toNat q.bits)))))) h)
    | _ => dflt
  | .val false [.d (.str a)], .val false [.d (.str b)] =>
    match op with
    | .add => fx.chk (decide (a.length + b.length < maxStr)) (k (some (.dd (.str (a ++ b)))) h)
    | _ => dflt
  | .val false [.d (.cpx q a b)], .val false [.d (.cpx q' c d)] =>
    match op with
    | .add => if q = q' then fx.fop false q a c fun x => fx.fop false q b d fun y => k (some (.dd (.cpx q x y))) h else none
    | .sub => if q = q' then fx.fop true q a c fun x => fx.fop true q b d fun y => k (some (.dd (.cpx q x y))) h else none
    | _ => dflt
  | _, _ => dflt
def isCmp : BinOp → Bool
  | .eql => true
  | .neq => true
  | _ => false
def binK (ρ : Opnd) (h : Heap) (op : BinOp) (t : TypeId) (x y : Operand) (dflt : Option R) (k : Kont R) : Option R :=
  cond (isCmp op) (cond (isNilO y) (nilK T fx ρ h op t x dflt k) (cond (isNilO x) (nilK T fx ρ h op t y dflt k) dflt))
    (match ρ x, ρ y with | some x, some y => arithK fx op x y h dflt k | _, _ => none)
def pickK (ρ : Opnd) (h : Heap) (c a b : Operand) (k : Kont R) : Option R :=
  match ρ c with
  | some (.val false [.d (.bool x)]) => cond x (match ρ a with | some v => k (some v) h | none => none) (match ρ b with | some v => k (some v) h | none => none)
  | _ => none
def convertK (ρ : Opnd) (h : Heap) (s t : TypeId) (x : Operand) (dflt : Option R) (k : Kont R) : Option R :=
  match T.info s, T.info t, ρ x with
  | some is, some it, some (.val false [c]) =>
    match c with
    | .d (.str b) =>
      match it.desc with
      | .slice e => match T.info e with
        | some ie => match ie.desc with
          | .int .u8 => fx.chk (decide (b.length ≤ maxEls)) (k (some (.one (.arr h.length))) (h ++ [.arr false true e 1 (bytesEs b)]))
          | _ => none
        | none => none
      | _ => dflt
    | .d (.slice 1 es) => cond (byteSl T is.desc it.desc) (fx.chk (decide (es.length ≤ maxEls)) (fx.bytes es fun s => k (some (.dd (.str s))) h)) none
    | .d (.flt q b) => match it.desc with
      | .int kk => fx.f2i q kk b fun n => k (some (.dd (.int kk n))) h
      | _ => dflt
    | .arr q =>
      match elemsOf h 1 (.one (.arr q)) with
      | some es => cond (byteSl T is.desc it.desc) (fx.chk (decide (es.length ≤ maxEls)) (fx.bytes es fun s => k (some (.dd (.str s))) h)) none
      | none => none
    | _ => dflt
  | _, _, _ => none
def makeSliceK (ρ : Opnd) (h : Heap) (t : TypeId) (l c : Operand) (k : Kont R) : Option R :=
  match T.info t with
  | some i =>
    match i.desc with
    | .slice e =>
      match T.info e with
      | some ie =>
        match ie.zero, intOf? (ρ l), intOf? (ρ c) with
        | some z, some n, some m =>
          cond (Nat.ble ie.bytes 65536 && Nat.beq z.length ie.size && Nat.blt 0 ie.size)
            (fx.chk (decide (0 ≤ n) && (n == m && decide (n ≤ maxEls))) (k (some (.one (.arr h.length))) (h ++ [.arr false false e ie.size (List.replicate n.toNat z)]))) none
        | _, _, _ => none
      | none => none
    | _ => none
  | none => none
def bndOf (ρ : Opnd) (d : Int) : Option Operand → Option Int
  | none => some d
  | some o => intOf? (ρ o)
def sliceK (ρ : Opnd) (h : Heap) (t : TypeId) (x : Operand) (lo hi : Option Operand) (k : Kont R) : Option R :=
  match T.info t, ρ x with
  | some it, some v =>
    match lenV h v with
    | some n =>
      match bndOf ρ 0 lo, bndOf ρ n hi with
      | some l, some u =>
        fx.chk (decide (0 ≤ l) && (decide (l ≤ u) && decide (u ≤ n)))
          (match it.desc with
          | .string => match v with
            | .val false [.d (.str s)] => k (some (.dd (.str ((s.take u.toNat).drop l.toNat)))) h
            | _ => none
          | .slice e =>
            match T.info e with
            | some ie =>
              match v with
              | .val false [.d (.slice s es)] => cond (Nat.beq s ie.size) (k (some (.dd (.slice ie.size ((es.take u.toNat).drop l.toNat)))) h) none
              | .val false [.arr q] =>
                match h[q]? with
                | some (.arr _ st t' s es) => cond (Nat.beq s ie.size) (k (some (.dd (.slice ie.size ((es.take u.toNat).drop l.toNat)))) (h.set q (.arr true st t' ie.size es))) none
                | _ => none
              | _ => none
            | none => none
          | _ => none)
      | _, _ => none
    | none => none
  | _, _ => none
def mvK (ρ : Opnd) (h : Heap) (t : TypeId) (x u : Operand) (k : Kont R) : Option R :=
  match T.info t, ρ x, intOf? (ρ u) with
  | some it, some (.val false [.arr q]), some u =>
    match it.desc, h[q]? with
    | .slice e, some (.arr false st t sz es) =>
      match T.info e with
      | some ie => cond (Nat.beq sz ie.size) (fx.chk (decide (0 ≤ u) && decide (u ≤ es.length)) (k (some (.one (.arr h.length))) (h.set q .dead ++ [.arr false st t sz (es.take u.toNat)]))) none
      | none => none
    | _, _ => none
  | _, _, _ => none
def appendK (ρ : Opnd) (h : Heap) (s x : Operand) (ts tx : TypeId) (k : Kont R) : Option R :=
  match T.info ts, T.info tx with
  | some it, some ix =>
    match it.desc with
    | .slice e =>
      cond (slStr ix.desc) (
        match T.info e, ρ x with
        | some ie, some xv =>
          match elemsOf h ie.size xv, ie.zero with
          | some ys, some z =>
            cond (Nat.ble ie.bytes 65536 && Nat.blt 0 ie.size && Nat.beq z.length ie.size) (
              match ρ s with
              | some (.val false [.arr q]) =>
                match h[q]? with
                | some (.arr f st t sz es) =>
                  cond (Nat.beq t e && Nat.beq sz ie.size) (fx.chk (decide (es.length + ys.length ≤ maxEls)) (k (some (.one (.arr h.length))) (h.set q .dead ++ [.arr f st t sz (es ++ ys)]))) none
                | _ => none
              | some (.val false [.d .nils]) =>
                fx.chk (decide (ys.length ≤ maxEls)) (k (some (.one (.arr (h.length + 1)))) (h ++ [.dead, .arr false false e ie.size ys]))
              | _ => none) none
          | _, _ => none
        | _, _ => none) none
    | _ => none
  | _, _ => none
def resV (s : RS) (v : s.T) : DV := mkRes (VVs.vs s.vals v.1)
def callIK (f : FuncId) (ts : List TypeId) (args : List DV) (h : Heap) (k : DV → Heap → Option R) : Option R :=
  match T.prim f with
  | some (.fn _) =>
    match passArgs T false h ts args with
    | some (args, h) => cond (args.all dataV) (fx.prim f args (kt.sig f args []) fun v => cond (dataV (resV (kt.sig f args []) v)) (k (resV (kt.sig f args []) v) h) none) none
    | none => none
  | some .ident => match args with | [v] => k v h | _ => none
  | some .clone =>
    match passArgs T false h ts args with
    | some ([.val false [.d (.slice sz es)]], h) =>
      match T.info (ts.headD 0) with
      | some it => match it.desc with | .slice e => k (.one (.arr h.length)) (h ++ [.arr false false e sz es]) | _ => none
      | none => none
    | _ => none
  | none =>
    cond (T.snap f)
      (fx.call f (args.map (snapV h)) [] (kt.sig f (args.map (snapV h)) []) fun v =>
        match RS.mk' (kt.sig f (args.map (snapV h)) []) v with
        | (r, []) => cond (scalarV r) (k r h) none
        | _ => none)
      (match passArgs T (T.byref f) h ts args with
      | some (args, h) =>
        let ks := reach 1000 h [] (args.flatMap DV.refs)
        let a := args.map (DV.ren (idx ks))
        let hs := sub h ks
        fx.call f a hs (kt.sig f a hs) fun v =>
          let p := RS.mk' (kt.sig f a hs) v
          let m := ks.length
          let back (j : Nat) : Option Nat := if j < m then ks[j]? else some (h.length + (j - m))
          let hh := p.2.map (Ob.ren back)
          k (p.1.ren back) (setAll h ks (hh.take m) ++ hh.drop m)
      | none => none)
def callK (ρ : Opnd) (h : Heap) (c : Operand) (args : Array Operand) (ts : Array TypeId) (k : Kont R) : Option R :=
  match ρ c, evs ρ args.toList with
  | some (.val false [.d (.fn f)]), some vs => callIK T kt fx f ts.toList vs h fun v h => k (some v) h
  | some (.val false [.clo f l]), some vs => callIK T kt fx f ts.toList (vs ++ l.map fun (k, o) => .one (.ptr k o)) h fun v h => k (some v) h
  | _, _ => none
def mapEs (h : Heap) (mc : C) : Option (List (List D × List D)) := match mc with
  | .map j => match h[j]? with | some (.map _ _ es) => some es | _ => none
  | .d .nilm => some []
  | _ => none
def lookK (ρ : Opnd) (h : Heap) (t : TypeId) (m key : Operand) (ok : Bool) (k : Kont R) : Option R :=
  match T.info t, ρ m, ρ key with
  | some it, some (.val false [mc]), some (.val _ kc) =>
    match it.desc with
    | .map _ e =>
      match T.info e with
      | some ie =>
        match frzL 20 h kc, ie.zero with
        | some (kd, h), some z =>
          match mapEs h mc with
          | some es =>
            fx.look kd es (kt.sh e)
              (fun v => match mkVal ie ((Vs.ds (kt.sh e) v).map .d) with | some (.val a cs) => k (some (cond ok (.tup [(a, cs), (false, [.d (.bool true)])]) (.val a cs))) h | _ => none)
              (match mkVal ie (z.map .d) with | some (.val a cs) => k (some (cond ok (.tup [(a, cs), (false, [.d (.bool false)])]) (.val a cs))) h | _ => none)
          | none => none
        | _, _ => none
      | none => none
    | _ => none
  | _, _, _ => none
def updK (ρ : Opnd) (h : Heap) (m key x : Operand) (k : Kont R) : Option R :=
  match ρ m, ρ key, ρ x with
  | some (.val false [.map j]), some (.val _ kc), some (.val _ xc) =>
    match frzL 20 h kc with
    | some (kd, h) =>
      match frzL 20 h xc with
      | some (vd, h) =>
        match h[j]? with
        | some (.map ka va es) => fx.upd kd vd es fun es => k none (h.set j (.map ka va es))
        | _ => none
      | none => none
    | none => none
  | _, _, _ => none
def unsafeStrK (ρ : Opnd) (h : Heap) (p n : Operand) (k : Kont R) : Option R :=
  match ρ p, intOf? (ρ n) with
  | some (.val false [.edata q]), some n =>
    match h[q]? with
    | some (.arr _ false t 1 es) => fx.bytes es fun s => fx.chk (n == Int.ofNat es.length) (k (some (.dd (.str s))) (h.set q (.arr true false t 1 es)))
    | _ => none
  | _, _ => none

def opK (mv : Bool) (ρ : Opnd) (h : Heap) (o : Oper) (k : Kont R) : Option R :=
  match o.op with
  | .load t p => loadK T kt fx ρ h t p (plainK T mv ρ h o k) k
  | .store t p x => storeK T kt fx ρ h t p x (plainK T mv ρ h o k) k
  | .indexAddr t x i => indexAddrK T fx ρ h t x i k
  | .index t x i => indexK T fx ρ h t x i k
  | .fieldAddr s x f => fieldAddrK T fx ρ h s x f (plainK T mv ρ h o k) k
  | .nilCheck x => nilCheckK fx ρ h x (plainK T mv ρ h o k) k
  | .binOp op t x y _ => binK T fx ρ h op t x y (plainK T mv ρ h o k) k
  | .pick c a b => pickK ρ h c a b k
  | .convert s t x => convertK T fx ρ h s t x (plainK T mv ρ h o k) k
  | .makeSlice t l c => makeSliceK T fx ρ h t l c k
  | .slice t x none (some u) none => cond mv (mvK T fx ρ h t x u k) (sliceK T fx ρ h t x none (some u) k)
  | .slice t x lo hi none => sliceK T fx ρ h t x lo hi k
  | .lookup t m key ok => cond kt.ext (lookK T kt fx ρ h t m key ok k) none
  | .mapUpdate _ m key x => cond kt.ext (updK fx ρ h m key x k) none
  | .call { callee := .builtin .append, args, argTypes } =>
    match args.toList, argTypes.toList with
    | [s, x], [ts, tx] => appendK T fx ρ h s x ts tx k
    | _, _ => none
  | .call { callee := .builtin .unsafeString, args, .. } =>
    match args.toList with
    | [p, n] => cond kt.ext (unsafeStrK fx ρ h p n k) none
    | _ => none
  | .call { callee := .value c, args, argTypes } => callK T kt fx ρ h c args argTypes k
  | _ => plainK T mv ρ h o k

/-- Which names are parted by their truth at once. -/
def brNames : List Oper → Array Oper → List Nat
  | [], _ => []
  | o :: r, ops =>
    (match o.guard with | some (j, _) => (match (ops[j]?).bind (·.dst) with | some d => [d] | none => []) | none => []) ++
    (match o.op with | .pick (.tmp t) _ _ => [t] | _ => []) ++ brNames r ops
def partK (br : List Nat) (dst : Option Nat) (v : Option DV) (k : Option DV → Option R) : Option R :=
  match dst with
  | some d =>
    cond (memN br d)
      (match v with
      | some (.val false [.d (.bool b)]) => cond b (k (some (.dd (.bool true)))) (k (some (.dd (.bool false))))
      | v => k v)
      (k v)
  | none => k v
def wantK (ops : Array Oper) (env : Env) (o : Oper) (k : Bool → Option R) : Option R :=
  match o.guard with
  | none => k true
  | some (j, want) => match (ops[j]?).bind (·.dst) with
    | some d => match env.get d with
      | some (.val false [.d (.bool b)]) => cond b (k (true == want)) (k (false == want))
      | some (.tup []) => k false
      | _ => none
    | none => k false
def runOpsK (mv : Bool) (nt : Nat) (br : List Nat) (ops : Array Oper) : List Oper → St → (St → Option R) → Option R
  | [], s, k => k s
  | o :: rest, s, k =>
    cond (dstOk nt o.dst) (wantK ops s.env o fun b =>
      cond b (opK T kt fx mv (opnd T s.env) s.heap o fun v h => partK br o.dst v fun v => runOpsK mv nt br ops rest ⟨putO s.env o.dst v, h⟩ k)
        (runOpsK mv nt br ops rest ⟨putO s.env o.dst none, s.heap⟩ k)) none
def drawH (t : Touch) (h hm : Heap) : Heap := match t with
  | .reads _ => h
  | t => mergeFrom t.keys 0 h hm
def runDrawK (mv : Bool) (nt : Nat) (br : List Nat) (ops : Array Oper) (before : List Nat) : Nat → List Oper → List Past → St → (St → Option R) → Option R
  | _, [], _, s, k => k s
  | i, o :: rest, past, s, k =>
    cond (dstOk nt o.dst) (wantK ops s.env o fun b =>
      cond b (
        let ρ := opnd1 T s.env s.heap.length o
        let t := touch T ρ s.heap o
        cond (apart (before.headD 0) t past && wfKeys s.heap t.keys)
          (opK T kt fx mv ρ (maskFrom t.keys 0 s.heap) o fun v hm =>
            cond (Nat.ble s.heap.length hm.length)
              (partK br o.dst v fun v => runDrawK mv nt br ops before.tail (i + 1) rest (⟨i, t, s.heap.length, (drawH t s.heap hm).length⟩ :: past) ⟨putO s.env o.dst v, drawH t s.heap hm⟩ k) none) none)
        (runDrawK mv nt br ops before.tail (i + 1) rest past ⟨putO s.env o.dst none, s.heap⟩ k)) none
def normF (F : Fr) (blk : Nat) (s : St) : Option St := norm F.m (s.env.map (·.1)) (F.fz blk) s
def seqK (f : St → Option R) (k : Ex → St → Option R) : Ex → St → Option R := fun e s => match e with
  | .normal => f s
  | e => k e s
def blockK (id : Nat) (k : Ex → St → Option R) : Ex → St → Option R := fun e s => match e with
  | .exit j => cond (Nat.beq j id) (k .normal s) (k (.exit j) s)
  | e => k e s
def runK (F : Fr) (blk : Nat) : Code → St → (Ex → St → Option R) → Option R
  | .skip, s, k => k .normal s
  | .region _ ops draw, s, k =>
    cond draw (runDrawK T kt fx F.mv F.nt (brNames ops.toList ops) ops (Region.before ops).toList 0 ops.toList [] s fun s => k .normal ⟨filterEnv F.live s.env, s.heap⟩)
      (runOpsK T kt fx F.mv F.nt (brNames ops.toList ops) ops ops.toList s fun s => k .normal ⟨filterEnv F.live s.env, s.heap⟩)
  | .seq a b, s, k => runK F blk a s (seqK (fun s => runK F blk b s k) k)
  | .cond c a b, s, k =>
    match opnd T s.env c with
    | some (.val false [.d (.bool x)]) => cond x (runK F blk a s k) (runK F blk b s k)
    | _ => none
  | .block id a, s, k => runK F id a s (blockK id k)
  | .loop a, s, k => match normF F blk s with | some s => fx.lp blk a s k | none => none
  | .exit id, s, k => k (.exit id) s
  | .ret, s, k => k .ret s
  | _, _, _ => none

/-- A round of a loop: its state is laid in order ahead of the next. -/
def roundK (F : Fr) (blk : Nat) (keys : List Nat) (rec : St → Option R) (k : Ex → St → Option R) : Ex → St → Option R := fun e s => match e with
  | .normal => match norm F.m keys (F.fz blk) s with | some s => rec s | none => none
  | e => k e s
def hasLp (b : Nat) : Nat → Code → Bool
  | cur, .loop a => Nat.beq cur b || hasLp b cur a
  | cur, .seq x y => hasLp b cur x || hasLp b cur y
  | _, .block id a => hasLp b id a
  | cur, .cond _ x y => hasLp b cur x || hasLp b cur y
  | _, _ => false
/-- What comes behind a loop. -/
def contAt (F : Fr) (b : Nat) : Nat → Code → (Ex → St → Option R) → (Ex → St → Option R)
  | cur, .seq x y, k => cond (hasLp b cur x) (contAt F b cur x (seqK (fun s => runK T kt fx F cur y s k) k)) (contAt F b cur y k)
  | _, .block id a, k => contAt F b id a (blockK id k)
  | cur, .cond _ x y, k => cond (hasLp b cur x) (contAt F b cur x k) (contAt F b cur y k)
  | _, _, k => k
/-- A loop's body. -/
def bodyAt (b : Nat) : Nat → Code → Code
  | cur, .loop a => cond (Nat.beq cur b) a (bodyAt b cur a)
  | cur, .seq x y => cond (hasLp b cur x) (bodyAt b cur x) (bodyAt b cur y)
  | _, .block id a => bodyAt b id a
  | cur, .cond _ x y => cond (hasLp b cur x) (bodyAt b cur x) (bodyAt b cur y)
  | _, c => c
end

def endF (T : Tab) (f : FuncId) (fn : Func) (m : Nat) (s : St) : Option (DV × Heap) :=
  match resultsI T s fn.results.toList with
  | some vs =>
    match (if T.keep f then some (vs, s.heap) else (match frzVs s.heap vs with | some (vs, h) => some (nilVs (fn.resultTypes.toList.map (slsOf T)) vs, h) | none => none)) with
    | some (vs, h) =>
      let q := moveOut (T.mvout f) h vs
      let h := q.1
      let vs := q.2
      let ks := reach 1000 h (List.range m) ((h.take m).flatMap Ob.refs ++ vs.flatMap fun v => v.2.flatMap C.refs)
      some ((mkRes vs).ren (idx ks), sub h ks)
    | none => none
  | none => none
def endK (T : Tab) (f : FuncId) (fn : Func) (m : Nat) : Ex → St → Option (DV × Heap) := fun e s => match e with
  | .exit _ => none
  | _ => endF T f fn m s
def frOf (T : Tab) (f : FuncId) (fn : Func) (m : Nat) : Fr := ⟨T.live f, T.fzAt f, T.mv f, 0, m, fn.ntmps⟩
def argEnv (args : List DV) : Env := args.zipIdx.map fun x => (x.2, x.1)
def bodyOf (fn : Func) : Code := match fn.body with | some c => c | none => .skip
/-- A function's run: what it asks. -/
def fnK (T : Tab) (kt : KT) (fx : Fx (DV × Heap)) (f : FuncId) (fn : Func) (args : List DV) (h : Heap) : Option (DV × Heap) :=
  runK T kt fx (frOf T f fn h.length) 0 (bodyOf fn) ⟨argEnv args, h⟩ (endK T f fn h.length)
end Go.Idl
