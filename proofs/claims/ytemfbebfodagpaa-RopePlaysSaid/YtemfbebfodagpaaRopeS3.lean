/- Part of a proof that the laws of this seat return true: a machine over plain data (Idl) that is sound for the given model, and its runs. Conditions: none. -/
import Derived.Test.YtemfbebfodagpaaRopeS2
import Derived.Test.YtemfbebfodagpaaRunsK
set_option linter.all false
set_option linter.all false
set_option maxRecDepth 100000
namespace Go.Proofs.TryI
open Go Go.Idl Go.Proofs

/-! Sums over items. -/
def sA : List It → Nat
  | [] => 0
  | x :: l => x.m.1 + sA l
def sB : List It → Nat
  | [] => 0
  | x :: l => x.m.2 + sB l
theorem sA_append (l m : List It) : sA (l ++ m) = sA l + sA m := by
  induction l with
  | nil => simp [sA]
  | cons x l ih => simp [sA, ih, Nat.add_assoc]
theorem sB_append (l m : List It) : sB (l ++ m) = sB l + sB m := by
  induction l with
  | nil => simp [sB]
  | cons x l ih => simp [sB, ih, Nat.add_assoc]
theorem RT.n_items : ∀ (t : RT), t.n = t.items.length := by
  intro t
  induction t with
  | nil => rfl
  | node l k a b r ihl ihr => simp only [RT.n, RT.items, List.length_append, List.length_cons, ihl, ihr]; omega
theorem RT.wa_items : ∀ (t : RT), t.wa = sA t.items := by
  intro t
  induction t with
  | nil => rfl
  | node l k a b r ihl ihr => simp only [RT.wa, RT.items, sA_append, sA, ihl, ihr]; omega
theorem RT.wb_items : ∀ (t : RT), t.wb = sB t.items := by
  intro t
  induction t with
  | nil => rfl
  | node l k a b r ihl ihr => simp only [RT.wb, RT.items, sB_append, sB, ihl, ihr]; omega
/-- Few items, of small marks. -/
def Small (l : List It) : Prop := l.length < 1099511627776 ∧ sA l < 1099511627776 ∧ sB l < 1099511627776
theorem ok_iff (t : RT) : t.Ok ↔ Small t.items := by
  unfold RT.Ok Small
  rw [t.n_items, t.wa_items, t.wb_items]
theorem Small.left {l m : List It} (h : Small (l ++ m)) : Small l := by
  obtain ⟨h1, h2, h3⟩ := h
  rw [List.length_append] at h1
  rw [sA_append] at h2
  rw [sB_append] at h3
  exact ⟨by omega, by omega, by omega⟩
theorem Small.right {l m : List It} (h : Small (l ++ m)) : Small m := by
  obtain ⟨h1, h2, h3⟩ := h
  rw [List.length_append] at h1
  rw [sA_append] at h2
  rw [sB_append] at h3
  exact ⟨by omega, by omega, by omega⟩
theorem Small.tail {x : It} {m : List It} (h : Small (x :: m)) : Small m := Small.right (l := [x]) h
theorem Small.take {l : List It} (h : Small l) (n : Nat) : Small (l.take n) := by
  rw [← List.take_append_drop n l] at h; exact h.left
theorem Small.drop {l : List It} (h : Small l) (n : Nat) : Small (l.drop n) := by
  rw [← List.take_append_drop n l] at h; exact h.right

/-! mark.Of, mark.Lines, Within, Clamp -/
section
variable {R : Type} {F : Fr}
theorem markOf_spec (a b : Nat) : callω T 9 [vI a, vI b] [] = some (.val false [.d (.cpx .f64 (FN a) (FN b))], []) := by
  refine byK (fn := Try.f9) (by kernel_rfl) (by kernel_rfl) ?_
  rw [r9]
  rfl
theorem c9 (a b : Nat) (k : _ → Option R) : (fxR T F).call 9 [vI a, vI b] [] ⟨[(false, [.d .cpx])], []⟩ k = k ((((FN a, FN b), ()), ()), ()) :=
  fx_call (s := ⟨[(false, [.d .cpx])], []⟩) ((((FN a, FN b), ()), ()), ()) (markOf_spec a b) rfl
theorem lines_spec (a : Nat) (n1 : Nat) (h : a < 9007199254740992) : callω T 22 [.val false [.d (.cpx .f64 (FN a) n1)]] [] = some (vI a, []) := by
  refine byK (fn := Try.f22) (by kernel_rfl) (by kernel_rfl) ?_
  rw [r22]
  unfold g22
  rw [fx_f2i, FN_int h]
  simp only
  rw [if_pos]
  constructor
  · show (-9223372036854775808 : Int) ≤ a
    omega
  · show (a : Int) ≤ 9223372036854775807
    omega
theorem c22 (a n1 : Nat) (h : a < 9007199254740992) (k : _ → Option R) : (fxR T F).call 22 [.val false [.d (.cpx .f64 (FN a) n1)]] [] ⟨[(false, [.d (.int .i64)])], []⟩ k = k ((((a : Int), ()), ()), ()) :=
  fx_call (s := ⟨[(false, [.d (.int .i64)])], []⟩) ((((a : Int), ()), ()), ()) (lines_spec a n1 h) rfl
def win (n lo hi : Int) : Int := lo + n % (hi - lo + 1)
theorem win_in (n lo hi : Int) (h : lo ≤ hi) : lo ≤ win n lo hi ∧ win n lo hi ≤ hi := by
  unfold win
  have h1 := Int.emod_nonneg n (b := hi - lo + 1) (by omega)
  have h2 := Int.emod_lt_of_pos n (b := hi - lo + 1) (by omega)
  omega
theorem tmod_win (n w : Int) (hw : 0 < w) : -w < n.tmod w ∧ n.tmod w < w ∧ (n % w = if n.tmod w < 0 then n.tmod w + w else n.tmod w) := by
  have h1 := Int.tmod_lt_of_pos n hw
  have h3 : -w < n.tmod w := by
    have := Int.lt_tmod_of_pos n hw
    omega
  refine ⟨h3, h1, ?_⟩
  have h4 : n = w * n.tdiv w + n.tmod w := (Int.mul_tdiv_add_tmod n w).symm
  have h5 : n % w = (n.tmod w) % w := by
    conv => lhs; rw [h4]
    rw [Int.mul_add_emod_self_left]
  rw [h5]
  split
  · rw [← Int.add_emod_right]
    exact Int.emod_eq_of_lt (by omega) (by omega)
  · exact Int.emod_eq_of_lt (by omega) (by omega)
theorem within_spec (n lo hi : Int) (h : lo ≤ hi) (h1 : -1099511627776 < lo) (h2 : hi < 1099511627776) : callω T 15 [vI n, vI lo, vI hi] [] = some (vI (win n lo hi), []) := by
  refine byK (fn := Try.f15) (by kernel_rfl) (by kernel_rfl) ?_
  rw [r15]
  unfold g15
  have e1 : IntKind.wrap .i64 (IntKind.wrap .i64 (hi - lo) + 1) = hi - lo + 1 := by
    rw [wrap64 (n := hi - lo) (by omega) (by omega), wrap64 (by omega) (by omega)]
  rw [e1]
  obtain ⟨t1, t2, t3⟩ := tmod_win n (hi - lo + 1) (by omega)
  have e2 : (!(hi - lo + 1 == 0)) = true := by
    have : ¬ (hi - lo + 1 = 0) := by omega
    simp [this]
  rw [fx_chk, e2, cond_true]
  unfold win
  rw [t3]
  split
  · rename_i hneg
    rw [decide_eq_true hneg, cond_true]
    rw [wrap64 (n := n.tmod (hi - lo + 1) + hi) (by omega) (by omega), wrap64 (n := n.tmod (hi - lo + 1) + hi - lo) (by omega) (by omega), wrap64 (n := n.tmod (hi - lo + 1) + hi - lo + 1) (by omega) (by omega), wrap64 (by omega) (by omega)]
    congr 5
    simp only [DV.val.injEq, List.cons.injEq, C.d.injEq, D.int.injEq, true_and, and_true]
    omega
  · rename_i hneg
    rw [decide_eq_false hneg, cond_false]
    rw [wrap64 (by omega) (by omega)]
theorem c15 (n lo hi : Int) (h : lo ≤ hi) (h1 : -1099511627776 < lo) (h2 : hi < 1099511627776) (k : _ → Option R) : (fxR T F).call 15 [vI n, vI lo, vI hi] [] ⟨[(false, [.d (.int .i64)])], []⟩ k = k (((win n lo hi, ()), ()), ()) :=
  fx_call (s := ⟨[(false, [.d (.int .i64)])], []⟩) (((win n lo hi, ()), ()), ()) (within_spec n lo hi h h1 h2) rfl
def clampT (n lo hi : Int) : Int := if n < lo then lo else if n > hi then hi else n
theorem clamp_spec (n lo hi : Int) : callω T 19 [vI n, vI lo, vI hi] [] = some (vI (clampT n lo hi), []) := by
  refine byK (fn := Try.f19) (by kernel_rfl) (by kernel_rfl) ?_
  rw [r19]
  unfold g19 clampT
  by_cases h1 : n < lo
  · rw [decide_eq_true h1, cond_true, if_pos h1]
  · rw [decide_eq_false h1, cond_false, if_neg h1]
    by_cases h2 : n > hi
    · rw [decide_eq_true h2, cond_true, if_pos h2]
    · rw [decide_eq_false h2, cond_false, if_neg h2]
theorem c19 (n lo hi : Int) (k : _ → Option R) : (fxR T F).call 19 [vI n, vI lo, vI hi] [] ⟨[(false, [.d (.int .i64)])], []⟩ k = k (((clampT n lo hi, ()), ()), ()) :=
  fx_call (s := ⟨[(false, [.d (.int .i64)])], []⟩) (((clampT n lo hi, ()), ()), ()) (clamp_spec n lo hi) rfl

/-! Len, Mark, Height -/
theorem len_spec (t : RT) : callω T 14 [vR t] [] = some (vI t.n, []) := by
  refine byK (fn := Try.f14) (by kernel_rfl) (by kernel_rfl) ?_
  rw [r14]
  unfold g14
  rw [c29]
theorem c14 (t : RT) (k : _ → Option R) : (fxR T F).call 14 [vR t] [] ⟨[(false, [.d (.int .i64)])], []⟩ k = k ((((t.n : Int), ()), ()), ()) := fx_call (s := ⟨[(false, [.d (.int .i64)])], []⟩) ((((t.n : Int), ()), ()), ()) (len_spec t) rfl
theorem mark_spec (t : RT) : callω T 17 [vR t] [] = some (.val false [.d (.cpx .f64 (FN t.wa) (FN t.wb))], []) := by
  refine byK (fn := Try.f17) (by kernel_rfl) (by kernel_rfl) ?_
  rw [r17]
  unfold g17
  rw [c28]
theorem c17 (t : RT) (k : _ → Option R) : (fxR T F).call 17 [vR t] [] ⟨[(false, [.d .cpx])], []⟩ k = k ((((FN t.wa, FN t.wb), ()), ()), ()) := fx_call (s := ⟨[(false, [.d .cpx])], []⟩) ((((FN t.wa, FN t.wb), ()), ()), ()) (mark_spec t) rfl
theorem ht_spec (t : RT) : callω T 23 [vR t] [] = some (vI t.h, []) := by
  refine byK (fn := Try.f23) (by kernel_rfl) (by kernel_rfl) ?_
  rw [r23]
  unfold g23
  rw [c30]
theorem c23 (t : RT) (k : _ → Option R) : (fxR T F).call 23 [vR t] [] ⟨[(false, [.d (.int .i64)])], []⟩ k = k ((((t.h : Int), ()), ()), ()) := fx_call (s := ⟨[(false, [.d (.int .i64)])], []⟩) ((((t.h : Int), ()), ()), ()) (ht_spec t) rfl

/-! Split -/
def splitR (t : RT) (i : Int) : RT × RT := splitT t (max 0 (min i t.n))
theorem splitM_spec (t : RT) (i : Int) (o : t.Ok) : callω T 10 [vR t, vI i] [] = some (.tup [(true, [.d (enc (splitR t i).1)]), (true, [.d (enc (splitR t i).2)])], []) := by
  refine byK (fn := Try.f10) (by kernel_rfl) (by kernel_rfl) ?_
  rw [r10]
  unfold g10
  simp only [c14, if_true, Bool.false_eq_true, if_false]
  have e : (if (if (t.n : Int) < i then (t.n : Int) else i) > 0 then if (t.n : Int) < i then (t.n : Int) else i else 0) = max 0 (min i t.n) := by
    split <;> split <;> omega
  rw [e, c25 t _ o (by omega) (by omega)]
  rfl
theorem c10 (t : RT) (i : Int) (o : t.Ok) (k : _ → Option R) : (fxR T F).call 10 [vR t, vI i] [] ⟨[(true, [.d .any]), (true, [.d .any])], []⟩ k = k (((enc (splitR t i).1, ()), ((enc (splitR t i).2, ()), ())), ()) :=
  fx_call (s := ⟨[(true, [.d .any]), (true, [.d .any])], []⟩) (((enc (splitR t i).1, ()), ((enc (splitR t i).2, ()), ())), ()) (splitM_spec t i o) rfl

/-! add, Items -/
abbrev eIts (l : List It) : List (List D) := l.map eIt
theorem add_spec : ∀ (t : RT) (l : List It), t.n + l.length < 1000000 → callω T 27 [.val false [.arr 0], vT t] [.arr false false 29 2 (eIts l)] = some (.val false [.arr 1], [.dead, .arr false false 29 2 (eIts (l ++ t.items))]) := by
  intro t
  induction t with
  | nil =>
    intro l hl
    refine byK (fn := Try.f27) (by kernel_rfl) (by kernel_rfl) ?_
    rw [r27]
    unfold g27
    rw [isnil_nil]
    simp [RT.items]
  | node a k m1 m2 b iha ihb =>
    intro l hl
    simp only [RT.n] at hl
    refine byK (fn := Try.f27) (by kernel_rfl) (by kernel_rfl) ?_
    rw [r27]
    unfold g27
    have ha := iha l (by omega)
    have hb := ihb (l ++ a.items ++ [⟨k, (m1, m2)⟩]) (by have := a.n_items; simp; omega)
    have ca (F : Fr) (kk : _ → Option (DV × Heap)) := fx_call (R := DV × Heap) (F := F) (s := ⟨[(false, [.ref (.arr 1)])], [.dead, .arr false false 29 2]⟩) (k := kk) ((((), ()), ()), ((), (eIts (l ++ a.items), ()))) ha rfl
    have cb (F : Fr) (kk : _ → Option (DV × Heap)) := fx_call (R := DV × Heap) (F := F) (s := ⟨[(false, [.ref (.arr 1)])], [.dead, .arr false false 29 2]⟩) (k := kk) ((((), ()), ()), ((), (eIts (l ++ a.items ++ [⟨k, (m1, m2)⟩] ++ b.items), ()))) hb rfl
    have hlen : decide ((eIts (l ++ a.items)).length + 1 ≤ 1048576) = true := by
      have := a.n_items
      simp
      omega
    have e1 : eIts (l ++ a.items) ++ [[D.int .i64 k, D.cpx .f64 (FN m1) (FN m2)]] = eIts (l ++ a.items ++ [⟨k, (m1, m2)⟩]) := by simp [eIt, cp]
    simp only [isnil_node, nn_node, p_node, fx_ptr, List.drop_zero, List.drop_succ_cons, ld_any, ld_item, ca, fx_chk, hlen, cond_true, e1, cb]
    simp [RT.items]
theorem items_spec (t : RT) (h : t.n < 1000000) : callω T 12 [vR t] [] = some (.val false [.d (.slice 2 (eIts t.items))], []) := by
  refine byK (fn := Try.f12) (by kernel_rfl) (by kernel_rfl) ?_
  rw [r12]
  unfold g12
  have ha : callω T 27 [.val false [.arr 0], vT t] [.arr false false 29 2 []] = some (.val false [.arr 1], [.dead, .arr false false 29 2 (eIts t.items)]) := add_spec t [] (by simpa using h)
  have ca (F : Fr) (kk : _ → Option (DV × Heap)) := fx_call (R := DV × Heap) (F := F) (s := ⟨[(false, [.ref (.arr 1)])], [.dead, .arr false false 29 2]⟩) (k := kk) ((((), ()), ()), ((), (eIts t.items, ()))) ha rfl
  rw [ca]
theorem c12 (t : RT) (h : t.n < 1000000) (k : _ → Option R) : (fxR T F).call 12 [vR t] [] ⟨[(false, [.d (.sl 2)])], []⟩ k = k (((eIts t.items, ()), ()), ()) := fx_call (s := ⟨[(false, [.d (.sl 2)])], []⟩) (((eIts t.items, ()), ()), ()) (items_spec t h) rfl
end
end Go.Proofs.TryI
