/- Part of a proof that the laws of this seat return true: a machine over plain data (Idl) that is sound for the given model, and its runs. Conditions: none. -/
import Derived.Test.YtemfbebfodagpaaKOk2
import Derived.Laws.BitsLemmas
set_option linter.all false
namespace Go.Idl
open Go
/-! Rules by which what was asked is answered. -/
theorem Sh.of_d (s : Sh) (x : s.T) : s.of (s.d x) = some x := by
  cases s with
  | cpx => rfl
  | int k => simp [Sh.of, Sh.d]
  | sl n => simp [Sh.of, Sh.d]
  | _ => rfl
theorem Vs.of_ds : ∀ (ss : List Sh) (v : Vs ss), Vs.of ss (Vs.ds ss v) = some v := by
  intro ss
  induction ss with
  | nil => intro v; rfl
  | cons s ss ih => intro v; simp only [Vs.ds, Vs.of, Sh.of_d, ih]; rfl
theorem eqRef_refl {r : C} (h : (match r with | .ptr _ _ | .arr _ | .map _ | .edata _ => true | _ => false) = true) : eqRef r r = true := by
  cases r <;> simp_all [eqRef]
/-- References of a form are places of memory. -/
def CSh.fine : CSh → Bool
  | .d _ => true
  | .ref r => match r with | .ptr _ _ | .arr _ | .map _ | .edata _ => true | _ => false
theorem CSh.of_mk (s : CSh) (x : s.T) (h : s.fine = true) : s.of (s.mk x) = some x := by
  cases s with
  | d s => exact Sh.of_d s x
  | ref r =>
    have hr : eqRef r r = true := eqRef_refl h
    have h2 : CSh.of (.ref r) r = cond (eqRef r r) (some ()) none := by cases r <;> rfl
    show CSh.of (.ref r) r = some x
    rw [h2, hr]
    rfl
theorem CVs.of_cs : ∀ (ss : List CSh) (v : CVs ss), ss.all CSh.fine = true → CVs.of ss (CVs.cs ss v) = some v := by
  intro ss
  induction ss with
  | nil => intro v _; rfl
  | cons s ss ih =>
    intro v h
    simp only [List.all_cons, Bool.and_eq_true] at h
    simp only [CVs.cs, CVs.of, CSh.of_mk s v.1 h.1, ih v.2 h.2]
    rfl
def OSh.fine : OSh → Bool
  | .box _ cs => cs.all CSh.fine
  | _ => true
theorem OSh.of_mk (s : OSh) (x : s.T) (h : s.fine = true) : s.of (s.mk x) = some x := by
  cases s with
  | box fz cs => 
    have := CVs.of_cs cs x h
    have h2 : OSh.of (.box fz cs) (.box fz (CVs.cs cs x)) = cond (fz == fz) (CVs.of cs (CVs.cs cs x)) none := rfl
    show OSh.of (.box fz cs) (.box fz (CVs.cs cs x)) = some x
    rw [h2, beq_self_eq_true, cond_true, this]
    rfl
  | arr fz st t sz => simp [OSh.of, OSh.mk]
  | map ka va => simp [OSh.of, OSh.mk]
  | dead => rfl
theorem HVs.of_h : ∀ (ss : List OSh) (v : HVs ss), ss.all OSh.fine = true → HVs.of ss (HVs.h ss v) = some v := by
  intro ss
  induction ss with
  | nil => intro v _; rfl
  | cons s ss ih =>
    intro v h
    simp only [List.all_cons, Bool.and_eq_true] at h
    simp only [HVs.h, HVs.of, OSh.of_mk s v.1 h.1, ih v.2 h.2]
    rfl
theorem VVs.of_vs : ∀ (ss : List (Bool × List CSh)) (v : VVs ss), (ss.all fun s => s.2.all CSh.fine) = true → VVs.of ss (VVs.vs ss v) = some v := by
  intro ss
  induction ss with
  | nil => intro v _; rfl
  | cons s ss ih =>
    intro v h
    simp only [List.all_cons, Bool.and_eq_true] at h
    simp only [VVs.vs, VVs.of, if_true, CVs.of_cs s.2 v.1 h.1, ih v.2 h.2]
    rfl
def RS.fine (s : RS) : Bool := (s.vals.all fun s => s.2.all CSh.fine) && s.heap.all OSh.fine
theorem mkRes_un : ∀ (vs : List (Bool × List C)), tupOk (mkRes vs) = true ∧ unRes (mkRes vs) = vs
  | [] => ⟨rfl, rfl⟩
  | [_] => ⟨rfl, rfl⟩
  | _ :: _ :: l => ⟨by
      have : Nat.beq (l.length + 1 + 1) 1 = false := by
        rw [Bool.eq_false_iff]
        intro h
        have := Nat.eq_of_beq_eq_true h
        omega
      simp [tupOk, mkRes, this], rfl⟩
theorem RS.of_mk (s : RS) (v : s.T) (h : s.fine = true) : s.of (s.mk' v) = some v := by
  unfold RS.fine at h
  simp only [Bool.and_eq_true] at h
  obtain ⟨h1, h2⟩ := mkRes_un (VVs.vs s.vals v.1)
  simp only [RS.of, RS.mk', h1, h2, cond_true, VVs.of_vs s.vals v.1 h.1, HVs.of_h s.heap v.2 h.2]
  rfl

section
variable {R : Type} {T : Tab} {F : Fr}
theorem fx_call {f : FuncId} {args : List DV} {hp : Heap} {s : RS} {k : s.T → Option R} (v : s.T) (h : callω T f args hp = some (s.mk' v)) (hs : s.fine = true) : (fxR T F).call f args hp s k = k v := by
  simp only [fxR, h, RS.of_mk s v hs]
@[simp] theorem fx_ptr {ds : List D} {k : List D → Option R} : (fxR T F).ptr (.ptr ds) k = k ds := rfl
@[simp] theorem fx_isnil_nil {a b : Option R} : (fxR T F).isnil .nilp a b = a := rfl
@[simp] theorem fx_isnil_ptr {ds : List D} {a b : Option R} : (fxR T F).isnil (.ptr ds) a b = b := rfl
@[simp] theorem fx_nn_ptr {ds : List D} {a : Option R} : (fxR T F).nn (.ptr ds) a = a := rfl
@[simp] theorem fx_chk {b : Bool} {a : Option R} : (fxR T F).chk b a = cond b a none := rfl
theorem fx_load {ds : List D} {ss : List Sh} {k : Vs ss → Option R} : (fxR T F).load ds ss k = match Vs.of ss (ds.take ss.length) with | some v => k v | none => none := rfl
theorem fx_load_eq {ds : List D} {ss : List Sh} {k : Vs ss → Option R} (v : Vs ss) (h : Vs.of ss (ds.take ss.length) = some v) : (fxR T F).load ds ss k = k v := by rw [fx_load, h]
theorem fx_el {es : List (List D)} {i : Nat} {ss : List Sh} {k : Vs ss → Option R} : (fxR T F).el es i ss k = match es[i]? with | some e => (match Vs.of ss e with | some v => k v | none => none) | none => none := rfl
theorem fx_elp {es : List (List D)} {n : Int} {k : List D → Option R} : (fxR T F).elp es n k = if 0 ≤ n then (match es[n.toNat]? with | some e => k e | none => none) else none := rfl
theorem fx_byte {s : List Nat} {n : Int} {k : Nat → Option R} : (fxR T F).byte s n k = if 0 ≤ n then (match s[n.toNat]? with | some b => k b | none => none) else none := rfl
theorem fx_fop {sub : Bool} {q : FloatKind} {a c : Nat} {k : Nat → Option R} : (fxR T F).fop sub q a c k = match (if sub then q.format.sub a c else q.format.add a c) with | some x => k x | none => none := rfl
theorem fx_f2i {s : FloatKind} {kk : IntKind} {b : Nat} {k : Int → Option R} : (fxR T F).f2i s kk b k = match (s.decode b).toInt .zero with | some n => if kk.min ≤ n ∧ n ≤ kk.max then k n else none | none => none := rfl
theorem wrap64 {n : Int} (h1 : -9223372036854775808 ≤ n) (h2 : n ≤ 9223372036854775807) : IntKind.wrap .i64 n = n := by
  rw [IntKind.wrap_i64]
  omega
end
open Go.RowKit in
/-- A run that answers, as a walk. -/
theorem walkω {P : Program} {T : Tab} (hT : RunOk P T) (hR : ReadOk T) (hF : FunOk P T) (hmix : P.follows Departure.mixedOrders = true) {f : FuncId} {fn : Func} (hf : T.func f = some fn) (hb : fn.body = some (bodyOf fn))
    {args : List DV} {b : Bool} (e : callω T f args [] = some (.dd (.bool b), [])) (w : World) {rargs : List Value} (ha : F2 (Vrel (fun _ => none) (fun _ _ => none)) args rargs) :
    Calls P f rargs.toArray w fun e w' => e = .returned (.bool b) ∧ Below w.heap.size w w' := by
  obtain ⟨n, hn⟩ := callω_iff.1 e
  exact walk_bool hT hR hF hmix hf hb hn (fun _ _ => none) w (by intro b i v e; cases e) ha
end Go.Idl
