/- Part of a proof that the laws of this seat return true: a machine over plain data (Idl) that is sound for the given model, and its runs. Conditions: none. -/
import Derived.Test.YtemfbebfodagpaaGR
import Derived.Test.YtemfbebfodagpaaKSimp
import Derived.Test.YtemfbebfodagpaaFlt
set_option linter.all false
set_option linter.all false
set_option maxRecDepth 100000
namespace Go.Proofs.TryI
open Go Go.Idl Go.Proofs

abbrev Mrk := Nat × Nat
structure It where
  key : Int
  m : Mrk
inductive RT where
  | nil
  | node (l : RT) (k : Int) (a b : Nat) (r : RT)
def RT.h : RT → Nat
  | .nil => 0
  | .node l _ _ _ r => 1 + max l.h r.h
def RT.n : RT → Nat
  | .nil => 0
  | .node l _ _ _ r => l.n + 1 + r.n
def RT.wa : RT → Nat
  | .nil => 0
  | .node l _ a _ r => l.wa + a + r.wa
def RT.wb : RT → Nat
  | .nil => 0
  | .node l _ _ b r => l.wb + b + r.wb
def RT.items : RT → List It
  | .nil => []
  | .node l k a b r => l.items ++ ⟨k, (a, b)⟩ :: r.items
def cp (m : Mrk) : D := .cpx .f64 (FN m.1) (FN m.2)
def eIt (x : It) : List D := [.int .i64 x.key, cp x.m]
def enc : RT → D
  | .nil => .nilp
  | .node l k a b r => .ptr [enc l, enc r, .int .i64 k, .cpx .f64 (FN a) (FN b), .int .i64 (1 + max l.h r.h : Nat), .int .i64 (l.n + 1 + r.n : Nat), .cpx .f64 (FN (l.wa + a + r.wa)) (FN (l.wb + b + r.wb))]
abbrev vT (t : RT) : DV := .val false [.d (enc t)]
abbrev vR (t : RT) : DV := .val true [.d (enc t)]
abbrev vI (n : Int) : DV := .val false [.d (.int .i64 n)]
abbrev vX (k : Int) (a b : Nat) : DV := .val true [.d (.int .i64 k), .d (.cpx .f64 (FN a) (FN b))]
def RT.Ok (t : RT) : Prop := t.n < 1099511627776 ∧ t.wa < 1099511627776 ∧ t.wb < 1099511627776
theorem RT.h_le : ∀ (t : RT), t.h ≤ t.n := by
  intro t
  induction t with
  | nil => simp [RT.h, RT.n]
  | node l k a b r ihl ihr => simp only [RT.h, RT.n]; omega
theorem RT.Ok.left {l : RT} {k : Int} {a b : Nat} {r : RT} (o : (RT.node l k a b r).Ok) : l.Ok := by
  obtain ⟨h1, h2, h3⟩ := o
  simp only [RT.n, RT.wa, RT.wb] at h1 h2 h3
  exact ⟨by omega, by omega, by omega⟩
theorem RT.Ok.right {l : RT} {k : Int} {a b : Nat} {r : RT} (o : (RT.node l k a b r).Ok) : r.Ok := by
  obtain ⟨h1, h2, h3⟩ := o
  simp only [RT.n, RT.wa, RT.wb] at h1 h2 h3
  exact ⟨by omega, by omega, by omega⟩
section
variable {R : Type} {F : Fr}
abbrev flds (l : RT) (k : Int) (a b : Nat) (r : RT) : List D := [enc l, enc r, .int .i64 k, .cpx .f64 (FN a) (FN b), .int .i64 (1 + max l.h r.h : Nat), .int .i64 (l.n + 1 + r.n : Nat), .cpx .f64 (FN (l.wa + a + r.wa)) (FN (l.wb + b + r.wb))]
theorem p_node (l : RT) (x : Int) (a b : Nat) (r : RT) (k : List D → Option R) : (fxR T F).ptr (enc (.node l x a b r)) k = k (flds l x a b r) := rfl
theorem nn_node (l : RT) (x : Int) (a b : Nat) (r : RT) (k : Option R) : (fxR T F).nn (enc (.node l x a b r)) k = k := rfl
theorem isnil_node (l : RT) (x : Int) (a b : Nat) (r : RT) (k k' : Option R) : (fxR T F).isnil (enc (.node l x a b r)) k k' = k' := rfl
theorem isnil_nil (k k' : Option R) : (fxR T F).isnil (enc .nil) k k' = k := rfl
theorem ld_any (d : D) (ds : List D) (k : _ → Option R) : (fxR T F).load (d :: ds) [.any] k = k (d, ()) := rfl
theorem ld_int (n : Int) (ds : List D) (k : _ → Option R) : (fxR T F).load (.int .i64 n :: ds) [.int .i64] k = k (n, ()) := rfl
theorem ld_cpx (a b : Nat) (ds : List D) (k : _ → Option R) : (fxR T F).load (.cpx .f64 a b :: ds) [.cpx] k = k ((a, b), ()) := rfl
theorem ld_item (n : Int) (a b : Nat) (ds : List D) (k : _ → Option R) : (fxR T F).load (.int .i64 n :: .cpx .f64 a b :: ds) [.int .i64, .cpx] k = k (n, ((a, b), ())) := rfl
end

theorem kx : kt.ext = true → T.ext = evalExt T.info := fun h => nomatch (show false = true from h)
theorem byK {f : FuncId} {fn : Func} {args : List DV} {h : Heap} {r : DV × Heap} (hf : T.func f = some fn) (hb : fn.body = some (bodyOf fn))
    (e : fnK T kt (fxR T (frOf T f fn h.length)) f fn args h = some r) : callω T f args h = some r := fnK_ok kx hf hb e

theorem height_spec (t : RT) : callω T 30 [vT t] [] = some (vI t.h, []) := by
  refine byK (fn := Try.f30) (by kernel_rfl) (by kernel_rfl) ?_
  rw [r30]
  cases t <;> simp [g30, enc, fx_load, Vs.of, Sh.of, RT.h]
theorem count_spec (t : RT) : callω T 29 [vT t] [] = some (vI t.n, []) := by
  refine byK (fn := Try.f29) (by kernel_rfl) (by kernel_rfl) ?_
  rw [r29]
  cases t <;> simp [g29, enc, fx_load, Vs.of, Sh.of, RT.n]
theorem weight_spec (t : RT) : callω T 28 [vT t] [] = some (.val false [.d (cp (t.wa, t.wb))], []) := by
  refine byK (fn := Try.f28) (by kernel_rfl) (by kernel_rfl) ?_
  rw [r28]
  cases t <;> simp [g28, enc, fx_load, Vs.of, Sh.of, RT.wa, RT.wb, cp, FN_zero]
section
variable {R : Type} {F : Fr}
theorem c30 (t : RT) (k : _ → Option R) : (fxR T F).call 30 [vT t] [] ⟨[(false, [.d (.int .i64)])], []⟩ k = k ((((t.h : Int), ()), ()), ()) := fx_call (s := ⟨[(false, [.d (.int .i64)])], []⟩) ((((t.h : Int), ()), ()), ()) (height_spec t) rfl
theorem c29 (t : RT) (k : _ → Option R) : (fxR T F).call 29 [vT t] [] ⟨[(false, [.d (.int .i64)])], []⟩ k = k ((((t.n : Int), ()), ()), ()) := fx_call (s := ⟨[(false, [.d (.int .i64)])], []⟩) ((((t.n : Int), ()), ()), ()) (count_spec t) rfl
theorem c28 (t : RT) (k : _ → Option R) : (fxR T F).call 28 [vT t] [] ⟨[(false, [.d .cpx])], []⟩ k = k ((((FN t.wa, FN t.wb), ()), ()), ()) := fx_call (s := ⟨[(false, [.d .cpx])], []⟩) ((((FN t.wa, FN t.wb), ()), ()), ()) (weight_spec t) rfl
end

/-! mark.Sum -/
def sumM : List Mrk → Mrk
  | [] => (0, 0)
  | m :: l => (m.1 + (sumM l).1, m.2 + (sumM l).2)
def eM (m : Mrk) : List D := [cp m]
abbrev eMs (l : List Mrk) : List (List D) := l.map eM
theorem sum_loop {x : DV × Heap} {kk : Ex → St → Option (DV × Heap)} (n2 n3 : Nat) (l1 : List (List D)) : ∀ (l pre : List Mrk) (acc : Mrk), acc.1 + (sumM l).1 < 2 ^ 53 → acc.2 + (sumM l).2 < 2 ^ 53 → pre.length + l.length < 2 ^ 40 →
    (∀ b, kk (.exit 0) (sx18_0_0 l1 n2 n3 (FN (acc.1 + (sumM l).1)) (FN (acc.2 + (sumM l).2)) (eMs (pre ++ l)) (pre ++ l).length (pre ++ l).length b) = some x) →
    lpk T (frOf T 18 Try.f18 0) 0 [0, 2, 3, 6, 7, 8] (bodyAt 0 0 (bodyOf Try.f18)) (st18_0 l1 n2 n3 (FN acc.1) (FN acc.2) (eMs (pre ++ l)) (pre ++ l).length pre.length) kk = some x := by
  intro l
  induction l with
  | nil =>
    intro pre acc h1 h2 hl hk
    refine lpk_go kx ?_
    rw [rl18_0]
    simpa [gl18_0, sumM] using hk (decide ((pre.length : Int) < pre.length))
  | cons m l ih =>
    intro pre acc h1 h2 hl hk
    simp only [sumM] at h1 h2
    simp only [List.length_cons] at hl
    refine lpk_go kx ?_
    rw [rl18_0]
    have e1 : Ieee.double.add (FN acc.1) (FN m.1) = some (FN (acc.1 + m.1)) := FN_add (by omega)
    have e2 : Ieee.double.add (FN acc.2) (FN m.2) = some (FN (acc.2 + m.2)) := FN_add (by omega)
    have e3 : IntKind.wrap .i64 ((pre.length : Int) + 1) = ((pre.length + 1 : Nat) : Int) := by rw [wrap64 (by omega) (by omega)]; rfl
    have e4 : (pre.length : Int) < pre.length + (l.length + 1) := by omega
    have := ih (pre ++ [m]) (acc.1 + m.1, acc.2 + m.2) (by simp only; omega) (by simp only; omega) (by simp; omega) (by intro b; simpa [sumM, Nat.add_assoc] using hk b)
    simp [gl18_0, fx_elp, eM, cp, fx_load, Vs.of, Sh.of, fx_fop, FloatKind.format, e1, e2, e3, e4] at this ⊢
    exact this
theorem sum_spec (l : List Mrk) (h1 : (sumM l).1 < 2 ^ 53) (h2 : (sumM l).2 < 2 ^ 53) (hl : l.length < 2 ^ 40) : callω T 18 [.val false [.d (.slice 1 (eMs l))]] [] = some (.val false [.d (cp (sumM l))], []) := by
  refine byK (fn := Try.f18) (by kernel_rfl) (by kernel_rfl) ?_
  rw [r18]
  unfold g18
  rw [fx_lp]
  have h := sum_loop (x := (.val false [.d (cp (sumM l))], [])) (kk := contAt T kt (fxR T (frOf T 18 Try.f18 0)) (frOf T 18 Try.f18 0) 0 0 (bodyOf Try.f18) (endK T 18 Try.f18 0)) 0 0 (eMs l) l [] (0, 0) (by simpa using h1) (by simpa using h2) (by simpa using hl) (by
    intro b
    rw [ra18_0_0]
    simp [ga18_0_0, cp])
  simpa [FN_zero] using h
section
variable {R : Type} {F : Fr}
theorem c18 (l : List Mrk) (h1 : (sumM l).1 < 2 ^ 53) (h2 : (sumM l).2 < 2 ^ 53) (hl : l.length < 2 ^ 40) (k : _ → Option R) : (fxR T F).call 18 [.val false [.d (.slice 1 (eMs l))]] [] ⟨[(false, [.d .cpx])], []⟩ k = k ((((FN (sumM l).1, FN (sumM l).2), ()), ()), ()) :=
  fx_call (s := ⟨[(false, [.d .cpx])], []⟩) ((((FN (sumM l).1, FN (sumM l).2), ()), ()), ()) (sum_spec l h1 h2 hl) rfl
end

/-! rope.tree -/
theorem tree_spec (l : RT) (k : Int) (a b : Nat) (r : RT) (o : (RT.node l k a b r).Ok) : callω T 24 [vT l, vX k a b, vT r] [] = some (vT (.node l k a b r), []) := by
  refine byK (fn := Try.f24) (by kernel_rfl) (by kernel_rfl) ?_
  have hl := l.h_le
  have hr := r.h_le
  obtain ⟨o1, o2, o3⟩ := o
  simp only [RT.n, RT.wa, RT.wb] at o1 o2 o3
  rw [r24]
  unfold g24
  simp only [c30, c29, c28, if_true]
  have e (F : Fr) := c18 (R := DV × Heap) (F := F) [(l.wa, l.wb), (a, b), (r.wa, r.wb)] (by simp [sumM]; omega) (by simp [sumM]; omega) (by simp)
  simp only [eMs, List.map, eM, cp] at e
  simp only [e, sumM]
  have e1 : IntKind.wrap .i64 (1 + if (r.h : Int) > l.h then (r.h : Int) else l.h) = ((1 + max l.h r.h : Nat) : Int) := by
    rw [wrap64 (by split <;> omega) (by split <;> omega)]
    split <;> omega
  have e2 : IntKind.wrap .i64 (IntKind.wrap .i64 ((l.n : Int) + 1) + r.n) = ((l.n + 1 + r.n : Nat) : Int) := by
    rw [wrap64 (n := (l.n : Int) + 1) (by omega) (by omega), wrap64 (by omega) (by omega)]
    omega
  rw [e1, e2]
  simp [vT, enc, Nat.add_assoc, Int.add_assoc]
section
variable {R : Type} {F : Fr}
theorem c24 (l : RT) (x : Int) (a b : Nat) (r : RT) (o : (RT.node l x a b r).Ok) (k : _ → Option R) : (fxR T F).call 24 [vT l, vX x a b, vT r] [] ⟨[(false, [.d .any])], []⟩ k = k (((enc (.node l x a b r), ()), ()), ()) :=
  fx_call (s := ⟨[(false, [.d .any])], []⟩) (((enc (.node l x a b r), ()), ()), ()) (tree_spec l x a b r o) rfl
end

/-! rope.lean -/
def leanT (l : RT) (k : Int) (a b : Nat) (r : RT) : RT :=
  if l.h > r.h + 1 then
    match l with
    | .nil => .nil
    | .node ll lk la lb lr =>
      if ll.h ≥ lr.h then .node ll lk la lb (.node lr k a b r)
      else match lr with
        | .nil => .nil
        | .node p mk ma mb q => .node (.node ll lk la lb p) mk ma mb (.node q k a b r)
  else if r.h > l.h + 1 then
    match r with
    | .nil => .nil
    | .node rl rk ra rb rr =>
      if rr.h ≥ rl.h then .node (.node l k a b rl) rk ra rb rr
      else match rl with
        | .nil => .nil
        | .node p mk ma mb q => .node (.node l k a b p) mk ma mb (.node q rk ra rb rr)
  else .node l k a b r
theorem wrap_h (t : RT) (o : t.Ok) : IntKind.wrap .i64 ((t.h : Int) + 1) = ((t.h + 1 : Nat) : Int) := by
  have := t.h_le
  have := o.1
  rw [wrap64 (by omega) (by omega)]
  omega
theorem okI {t : RT} (h1 : t.n < 1099511627776) (h2 : t.wa < 1099511627776) (h3 : t.wb < 1099511627776) : t.Ok := ⟨h1, h2, h3⟩
theorem lean_spec (l : RT) (k : Int) (a b : Nat) (r : RT) (o : (RT.node l k a b r).Ok) : callω T 33 [vT l, vX k a b, vT r] [] = some (vT (leanT l k a b r), []) := by
  refine byK (fn := Try.f33) (by kernel_rfl) (by kernel_rfl) ?_
  rw [r33]
  unfold g33
  have o' := o
  obtain ⟨o1, o2, o3⟩ := o
  simp only [RT.n, RT.wa, RT.wb] at o1 o2 o3
  simp only [c30, wrap_h _ o'.left, wrap_h _ o'.right]
  unfold leanT
  by_cases h1 : l.h > r.h + 1
  · have d1 : decide ((l.h : Int) > ((r.h + 1 : Nat) : Int)) = true := decide_eq_true (by omega)
    rw [if_pos h1, d1, cond_true]
    cases l with
    | nil => simp [RT.h] at h1
    | node ll lk la lb lr =>
      simp only [RT.n, RT.wa, RT.wb] at o1 o2 o3
      simp only [p_node, nn_node, fx_ptr, List.drop_zero, List.drop_succ_cons, ld_any, ld_item, c30]
      by_cases h2 : ll.h ≥ lr.h
      · have d2 : decide ((ll.h : Int) ≥ (lr.h : Int)) = true := decide_eq_true (by omega)
        rw [if_pos h2, d2, cond_true]
        rw [c24 lr k a b r (okI (by simp only [RT.n]; omega) (by simp only [RT.wa]; omega) (by simp only [RT.wb]; omega))]
        simp only
        rw [c24 ll lk la lb (.node lr k a b r) (okI (by simp only [RT.n]; omega) (by simp only [RT.wa]; omega) (by simp only [RT.wb]; omega))]
      · have d2 : decide ((ll.h : Int) ≥ (lr.h : Int)) = false := decide_eq_false (by omega)
        rw [if_neg h2, d2, cond_false]
        cases lr with
        | nil => simp [RT.h] at h2
        | node p mk ma mb q =>
          simp only [RT.n, RT.wa, RT.wb] at o1 o2 o3
          simp only [p_node, nn_node, fx_ptr, List.drop_zero, List.drop_succ_cons, ld_any, ld_item]
          rw [c24 ll lk la lb p (okI (by simp only [RT.n]; omega) (by simp only [RT.wa]; omega) (by simp only [RT.wb]; omega))]
          simp only
          rw [c24 q k a b r (okI (by simp only [RT.n]; omega) (by simp only [RT.wa]; omega) (by simp only [RT.wb]; omega))]
          simp only
          rw [c24 _ mk ma mb _ (okI (by simp only [RT.n]; omega) (by simp only [RT.wa]; omega) (by simp only [RT.wb]; omega))]
  · have d1 : decide ((l.h : Int) > ((r.h + 1 : Nat) : Int)) = false := decide_eq_false (by omega)
    rw [if_neg h1, d1, cond_false]
    by_cases h3 : r.h > l.h + 1
    · have d3 : decide ((r.h : Int) > ((l.h + 1 : Nat) : Int)) = true := decide_eq_true (by omega)
      rw [if_pos h3]
      simp only [d3, cond_true]
      cases r with
      | nil => simp [RT.h] at h3
      | node rl rk ra rb rr =>
        simp only [RT.n, RT.wa, RT.wb] at o1 o2 o3
        simp only [p_node, nn_node, fx_ptr, List.drop_zero, List.drop_succ_cons, ld_any, ld_item, c30]
        by_cases h2 : rr.h ≥ rl.h
        · have d2 : decide ((rr.h : Int) ≥ (rl.h : Int)) = true := decide_eq_true (by omega)
          rw [if_pos h2, d2, cond_true]
          rw [c24 l k a b rl (okI (by simp only [RT.n]; omega) (by simp only [RT.wa]; omega) (by simp only [RT.wb]; omega))]
          simp only
          rw [c24 _ rk ra rb rr (okI (by simp only [RT.n]; omega) (by simp only [RT.wa]; omega) (by simp only [RT.wb]; omega))]
        · have d2 : decide ((rr.h : Int) ≥ (rl.h : Int)) = false := decide_eq_false (by omega)
          rw [if_neg h2, d2, cond_false]
          cases rl with
          | nil => simp [RT.h] at h2
          | node p mk ma mb q =>
            simp only [RT.n, RT.wa, RT.wb] at o1 o2 o3
            simp only [p_node, nn_node, fx_ptr, List.drop_zero, List.drop_succ_cons, ld_any, ld_item]
            rw [c24 l k a b p (okI (by simp only [RT.n]; omega) (by simp only [RT.wa]; omega) (by simp only [RT.wb]; omega))]
            simp only
            rw [c24 q rk ra rb rr (okI (by simp only [RT.n]; omega) (by simp only [RT.wa]; omega) (by simp only [RT.wb]; omega))]
            simp only
            rw [c24 _ mk ma mb _ (okI (by simp only [RT.n]; omega) (by simp only [RT.wa]; omega) (by simp only [RT.wb]; omega))]
    · have d3 : decide ((r.h : Int) > ((l.h + 1 : Nat) : Int)) = false := decide_eq_false (by omega)
      rw [if_neg h3]
      simp only [d3, cond_false]
      rw [c24 l k a b r o']
end Go.Proofs.TryI
