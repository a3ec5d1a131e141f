/- Part of a proof that the laws of this seat return true: a machine over plain data (Idl) that is sound for the given model, and its runs. Conditions: none. -/
import Derived.Test.YtemfbebfodagpaaRopeS
set_option linter.all false
set_option linter.all false
set_option maxRecDepth 100000
namespace Go.Proofs.TryI
open Go Go.Idl Go.Proofs
theorem leanT_sums (l : RT) (k : Int) (a b : Nat) (r : RT) : (leanT l k a b r).n = l.n + 1 + r.n ∧ (leanT l k a b r).wa = l.wa + a + r.wa ∧ (leanT l k a b r).wb = l.wb + b + r.wb ∧ (leanT l k a b r).items = l.items ++ ⟨k, (a, b)⟩ :: r.items := by
  unfold leanT
  split
  · rename_i h1
    cases l with
    | nil => simp [RT.h] at h1
    | node ll lk la lb lr =>
      simp only
      split
      · simp only [RT.n, RT.wa, RT.wb, RT.items]
        refine ⟨by omega, by omega, by omega, by simp⟩
      · rename_i h2
        cases lr with
        | nil => simp [RT.h] at h2
        | node p mk ma mb q =>
          simp only [RT.n, RT.wa, RT.wb, RT.items]
          refine ⟨by omega, by omega, by omega, by simp⟩
  · split
    · rename_i h1
      cases r with
      | nil => simp [RT.h] at h1
      | node rl rk ra rb rr =>
        simp only
        split
        · simp only [RT.n, RT.wa, RT.wb, RT.items]
          refine ⟨by omega, by omega, by omega, by simp⟩
        · rename_i h2
          cases rl with
          | nil => simp [RT.h] at h2
          | node p mk ma mb q =>
            simp only [RT.n, RT.wa, RT.wb, RT.items]
            refine ⟨by omega, by omega, by omega, by simp⟩
    · simp [RT.n, RT.wa, RT.wb, RT.items]
section
variable {R : Type} {F : Fr}
theorem c33 (l : RT) (x : Int) (a b : Nat) (r : RT) (o : (RT.node l x a b r).Ok) (k : _ → Option R) : (fxR T F).call 33 [vT l, vX x a b, vT r] [] ⟨[(false, [.d .any])], []⟩ k = k (((enc (leanT l x a b r), ()), ()), ()) :=
  fx_call (s := ⟨[(false, [.d .any])], []⟩) (((enc (leanT l x a b r), ()), ()), ()) (lean_spec l x a b r o) rfl
end

/-! rope.link -/
def linkT (l : RT) (k : Int) (a b : Nat) (r : RT) : RT :=
  if l.h > r.h + 1 then
    match l with
    | .nil => .nil
    | .node ll lk la lb lr => leanT ll lk la lb (linkT lr k a b r)
  else if r.h > l.h + 1 then
    match r with
    | .nil => .nil
    | .node rl rk ra rb rr => leanT (linkT l k a b rl) rk ra rb rr
  else .node l k a b r
termination_by l.n + r.n
decreasing_by
  all_goals simp only [RT.n]; omega
theorem linkT_sums (k : Int) (a b : Nat) : ∀ (m : Nat) (l r : RT), l.n + r.n ≤ m → (linkT l k a b r).n = l.n + 1 + r.n ∧ (linkT l k a b r).wa = l.wa + a + r.wa ∧ (linkT l k a b r).wb = l.wb + b + r.wb ∧ (linkT l k a b r).items = l.items ++ ⟨k, (a, b)⟩ :: r.items := by
  intro m
  induction m with
  | zero =>
    intro l r hm
    have hl := l.h_le
    have hr := r.h_le
    rw [linkT.eq_def, if_neg (by omega), if_neg (by omega)]
    simp [RT.n, RT.wa, RT.wb, RT.items]
  | succ m ih =>
    intro l r hm
    rw [linkT.eq_def]
    split
    · rename_i h1
      cases l with
      | nil => simp [RT.h] at h1
      | node ll lk la lb lr =>
        simp only [RT.n] at hm
        obtain ⟨i1, i2, i3, i4⟩ := ih lr r (by omega)
        obtain ⟨j1, j2, j3, j4⟩ := leanT_sums ll lk la lb (linkT lr k a b r)
        simp only [RT.n, RT.wa, RT.wb, RT.items, j1, j2, j3, j4, i1, i2, i3, i4]
        refine ⟨by omega, by omega, by omega, by simp⟩
    · split
      · rename_i h1
        cases r with
        | nil => simp [RT.h] at h1
        | node rl rk ra rb rr =>
          simp only [RT.n] at hm
          obtain ⟨i1, i2, i3, i4⟩ := ih l rl (by omega)
          obtain ⟨j1, j2, j3, j4⟩ := leanT_sums (linkT l k a b rl) rk ra rb rr
          simp only [RT.n, RT.wa, RT.wb, RT.items, j1, j2, j3, j4, i1, i2, i3, i4]
          refine ⟨by omega, by omega, by omega, by simp⟩
      · simp [RT.n, RT.wa, RT.wb, RT.items]
theorem link_sums (l : RT) (k : Int) (a b : Nat) (r : RT) : (linkT l k a b r).n = l.n + 1 + r.n ∧ (linkT l k a b r).wa = l.wa + a + r.wa ∧ (linkT l k a b r).wb = l.wb + b + r.wb ∧ (linkT l k a b r).items = l.items ++ ⟨k, (a, b)⟩ :: r.items := linkT_sums k a b _ l r (Nat.le_refl _)
theorem link_spec (k : Int) (a b : Nat) : ∀ (m : Nat) (l r : RT), l.n + r.n ≤ m → (RT.node l k a b r).Ok → callω T 31 [vT l, vX k a b, vT r] [] = some (vT (linkT l k a b r), []) := by
  intro m
  induction m with
  | zero =>
    intro l r hm o
    have hl := l.h_le
    have hr := r.h_le
    have e0 : l.h = 0 := by omega
    have e1 : r.h = 0 := by omega
    refine byK (fn := Try.f31) (by kernel_rfl) (by kernel_rfl) ?_
    rw [r31]
    unfold g31
    rw [linkT.eq_def, if_neg (by omega), if_neg (by omega)]
    simp only [c30, wrap_h _ o.left, wrap_h _ o.right, e0, e1]
    simp only [c24 l k a b r o]
    rfl
  | succ m ih =>
    intro l r hm o
    refine byK (fn := Try.f31) (by kernel_rfl) (by kernel_rfl) ?_
    rw [r31]
    unfold g31
    rw [linkT.eq_def]
    have o' := o
    obtain ⟨o1, o2, o3⟩ := o
    simp only [RT.n, RT.wa, RT.wb] at o1 o2 o3
    simp only [c30, wrap_h _ o'.left, wrap_h _ o'.right]
    by_cases h1 : l.h > r.h + 1
    · have d1 : decide ((l.h : Int) > ((r.h + 1 : Nat) : Int)) = true := decide_eq_true (by omega)
      rw [if_pos h1, d1, cond_true]
      cases l with
      | nil => simp [RT.h] at h1
      | node ll lk la lb lr =>
        simp only [RT.n, RT.wa, RT.wb] at o1 o2 o3 hm
        have sp := ih lr r (by omega) (okI (by simp only [RT.n]; omega) (by simp only [RT.wa]; omega) (by simp only [RT.wb]; omega))
        have cc (F : Fr) (kk : _ → Option (DV × Heap)) := fx_call (R := DV × Heap) (F := F) (s := ⟨[(false, [.d .any])], []⟩) (k := kk) (((enc (linkT lr k a b r), ()), ()), ()) sp rfl
        obtain ⟨i1, i2, i3, _⟩ := link_sums lr k a b r
        simp only [p_node, nn_node, fx_ptr, List.drop_zero, List.drop_succ_cons, ld_any, ld_item, cc]
        rw [c33 ll lk la lb _ (okI (by simp only [RT.n, i1]; omega) (by simp only [RT.wa, i2]; omega) (by simp only [RT.wb, i3]; omega))]
    · have d1 : decide ((l.h : Int) > ((r.h + 1 : Nat) : Int)) = false := decide_eq_false (by omega)
      rw [if_neg h1, d1, cond_false]
      by_cases h3 : r.h > l.h + 1
      · have d3 : decide ((r.h : Int) > ((l.h + 1 : Nat) : Int)) = true := decide_eq_true (by omega)
        rw [if_pos h3]
        simp only [d3, cond_true]
        cases r with
        | nil => simp [RT.h] at h3
        | node rl rk ra rb rr =>
          simp only [RT.n, RT.wa, RT.wb] at o1 o2 o3 hm
          have sp := ih l rl (by omega) (okI (by simp only [RT.n]; omega) (by simp only [RT.wa]; omega) (by simp only [RT.wb]; omega))
          have cc (F : Fr) (kk : _ → Option (DV × Heap)) := fx_call (R := DV × Heap) (F := F) (s := ⟨[(false, [.d .any])], []⟩) (k := kk) (((enc (linkT l k a b rl), ()), ()), ()) sp rfl
          obtain ⟨i1, i2, i3, _⟩ := link_sums l k a b rl
          simp only [p_node, nn_node, fx_ptr, List.drop_zero, List.drop_succ_cons, ld_any, ld_item, cc]
          rw [c33 _ rk ra rb rr (okI (by simp only [RT.n, i1]; omega) (by simp only [RT.wa, i2]; omega) (by simp only [RT.wb, i3]; omega))]
      · have d3 : decide ((r.h : Int) > ((l.h + 1 : Nat) : Int)) = false := decide_eq_false (by omega)
        rw [if_neg h3]
        simp only [d3, cond_false]
        rw [c24 l k a b r o']
section
variable {R : Type} {F : Fr}
theorem c31 (l : RT) (x : Int) (a b : Nat) (r : RT) (o : (RT.node l x a b r).Ok) (k : _ → Option R) : (fxR T F).call 31 [vT l, vX x a b, vT r] [] ⟨[(false, [.d .any])], []⟩ k = k (((enc (linkT l x a b r), ()), ()), ()) :=
  fx_call (s := ⟨[(false, [.d .any])], []⟩) (((enc (linkT l x a b r), ()), ()), ()) (link_spec x a b _ l r (Nat.le_refl _) o) rfl
end

/-! rope.first -/
def firstT : RT → It × RT
  | .nil => (⟨0, (0, 0)⟩, .nil)
  | .node .nil k a b r => (⟨k, (a, b)⟩, r)
  | .node (.node l' k' a' b' r') k a b r => let q := firstT (.node l' k' a' b' r'); (q.1, leanT q.2 k a b r)
theorem firstT_sums : ∀ (t : RT), t.n ≠ 0 → t.items = (firstT t).1 :: (firstT t).2.items ∧ t.n = 1 + (firstT t).2.n ∧ t.wa = (firstT t).1.m.1 + (firstT t).2.wa ∧ t.wb = (firstT t).1.m.2 + (firstT t).2.wb := by
  intro t
  induction t with
  | nil => intro h; simp [RT.n] at h
  | node l k a b r ihl _ =>
    intro _
    cases l with
    | nil => simp [firstT, RT.items, RT.n, RT.wa, RT.wb]
    | node l' k' a' b' r' =>
      obtain ⟨i1, i2, i3, i4⟩ := ihl (by simp [RT.n])
      obtain ⟨j1, j2, j3, j4⟩ := leanT_sums (firstT (.node l' k' a' b' r')).2 k a b r
      simp only [firstT]
      refine ⟨?_, ?_, ?_, ?_⟩
      · rw [RT.items, i1, j4]; simp
      · rw [RT.n, i2, j1]; omega
      · rw [RT.wa, i3, j2]; omega
      · rw [RT.wb, i4, j3]; omega
theorem first_spec : ∀ (t : RT), t.n ≠ 0 → t.Ok → callω T 32 [vT t] [] = some (.tup [(true, [.d (.int .i64 (firstT t).1.key), .d (.cpx .f64 (FN (firstT t).1.m.1) (FN (firstT t).1.m.2))]), (false, [.d (enc (firstT t).2)])], []) := by
  intro t
  induction t with
  | nil => intro h; simp [RT.n] at h
  | node l k a b r ihl _ =>
    intro _ o
    refine byK (fn := Try.f32) (by kernel_rfl) (by kernel_rfl) ?_
    rw [r32]
    unfold g32
    cases l with
    | nil =>
      simp only [p_node, nn_node, fx_ptr, List.drop_zero, List.drop_succ_cons, ld_any, ld_item, isnil_nil]
      rfl
    | node l' k' a' b' r' =>
      have sp := ihl (by simp [RT.n]) o.left
      have cc (F : Fr) (kk : _ → Option (DV × Heap)) := fx_call (R := DV × Heap) (F := F) (s := ⟨[(true, [.d (.int .i64), .d .cpx]), (false, [.d .any])], []⟩) (k := kk)
        ((((firstT (.node l' k' a' b' r')).1.key, ((FN (firstT (.node l' k' a' b' r')).1.m.1, FN (firstT (.node l' k' a' b' r')).1.m.2), ())), ((enc (firstT (.node l' k' a' b' r')).2, ()), ())), ()) sp rfl
      obtain ⟨_, j1, j2, j3⟩ := firstT_sums (.node l' k' a' b' r') (by simp [RT.n])
      have o' := o
      obtain ⟨o1, o2, o3⟩ := o
      rw [RT.n] at o1
      rw [RT.wa] at o2
      rw [RT.wb] at o3
      simp only [p_node, nn_node, fx_ptr, List.drop_zero, List.drop_succ_cons, ld_any, ld_item, isnil_node, cc]
      rw [c33 _ k a b r (okI (by simp only [RT.n] at j1 o1 ⊢; omega) (by simp only [RT.wa] at j2 o2 ⊢; omega) (by simp only [RT.wb] at j3 o3 ⊢; omega))]
      simp only [firstT]
section
variable {R : Type} {F : Fr}
theorem c32 (t : RT) (h : t.n ≠ 0) (o : t.Ok) (k : _ → Option R) : (fxR T F).call 32 [vT t] [] ⟨[(true, [.d (.int .i64), .d .cpx]), (false, [.d .any])], []⟩ k = k ((((firstT t).1.key, ((FN (firstT t).1.m.1, FN (firstT t).1.m.2), ())), ((enc (firstT t).2, ()), ())), ()) :=
  fx_call (s := ⟨[(true, [.d (.int .i64), .d .cpx]), (false, [.d .any])], []⟩) ((((firstT t).1.key, ((FN (firstT t).1.m.1, FN (firstT t).1.m.2), ())), ((enc (firstT t).2, ()), ())), ()) (first_spec t h o) rfl
end

/-! rope.join -/
def joinT (l r : RT) : RT := match r with
  | .nil => l
  | .node rl k a b rr => let q := firstT (.node rl k a b rr); linkT l q.1.key q.1.m.1 q.1.m.2 q.2
theorem joinT_sums (l r : RT) : (joinT l r).n = l.n + r.n ∧ (joinT l r).wa = l.wa + r.wa ∧ (joinT l r).wb = l.wb + r.wb ∧ (joinT l r).items = l.items ++ r.items := by
  cases r with
  | nil => simp [joinT, RT.n, RT.wa, RT.wb, RT.items]
  | node rl k a b rr =>
    obtain ⟨i1, i2, i3, i4⟩ := firstT_sums (.node rl k a b rr) (by simp [RT.n])
    simp only [joinT]
    generalize firstT (.node rl k a b rr) = q at i1 i2 i3 i4
    obtain ⟨j1, j2, j3, j4⟩ := link_sums l q.1.key q.1.m.1 q.1.m.2 q.2
    rw [i1, i2, i3, i4, j1, j2, j3, j4]
    exact ⟨by omega, by omega, by omega, rfl⟩
theorem join_spec (l r : RT) (h1 : l.n + r.n < 1099511627776) (h2 : l.wa + r.wa < 1099511627776) (h3 : l.wb + r.wb < 1099511627776) : callω T 26 [vT l, vT r] [] = some (vT (joinT l r), []) := by
  refine byK (fn := Try.f26) (by kernel_rfl) (by kernel_rfl) ?_
  rw [r26]
  unfold g26
  cases r with
  | nil => simp only [isnil_nil]; rfl
  | node rl k a b rr =>
    obtain ⟨i1, i2, i3, i4⟩ := firstT_sums (.node rl k a b rr) (by simp [RT.n])
    simp only [isnil_node]
    rw [c32 _ (by simp [RT.n]) (okI (by omega) (by omega) (by omega))]
    simp only
    rw [c31 l _ _ _ _ (okI (by rw [RT.n]; omega) (by rw [RT.wa]; omega) (by rw [RT.wb]; omega))]
    rfl
section
variable {R : Type} {F : Fr}
theorem c26 (l r : RT) (h1 : l.n + r.n < 1099511627776) (h2 : l.wa + r.wa < 1099511627776) (h3 : l.wb + r.wb < 1099511627776) (k : _ → Option R) : (fxR T F).call 26 [vT l, vT r] [] ⟨[(false, [.d .any])], []⟩ k = k (((enc (joinT l r), ()), ()), ()) :=
  fx_call (s := ⟨[(false, [.d .any])], []⟩) (((enc (joinT l r), ()), ()), ()) (join_spec l r h1 h2 h3) rfl
end

/-! rope.split -/
def splitT : RT → Int → RT × RT
  | .nil, _ => (.nil, .nil)
  | .node l k a b r, i =>
    if i > l.n then (let q := splitT r (i - l.n - 1); (linkT l k a b q.1, q.2))
    else (let q := splitT l i; (q.1, linkT q.2 k a b r))
theorem splitT_sums : ∀ (t : RT) (i : Int), (splitT t i).1.n + (splitT t i).2.n = t.n ∧ (splitT t i).1.wa + (splitT t i).2.wa = t.wa ∧ (splitT t i).1.wb + (splitT t i).2.wb = t.wb ∧ (splitT t i).1.items ++ (splitT t i).2.items = t.items := by
  intro t
  induction t with
  | nil => intro i; simp [splitT, RT.n, RT.wa, RT.wb, RT.items]
  | node l k a b r ihl ihr =>
    intro i
    simp only [splitT]
    split
    · obtain ⟨h1, h2, h3, h4⟩ := ihr (i - l.n - 1)
      obtain ⟨j1, j2, j3, j4⟩ := link_sums l k a b (splitT r (i - l.n - 1)).1
      simp only [RT.n, RT.wa, RT.wb, RT.items, j1, j2, j3, j4, ← h4]
      refine ⟨by omega, by omega, by omega, by simp⟩
    · obtain ⟨h1, h2, h3, h4⟩ := ihl i
      obtain ⟨j1, j2, j3, j4⟩ := link_sums (splitT l i).2 k a b r
      simp only [RT.n, RT.wa, RT.wb, RT.items, j1, j2, j3, j4, ← h4]
      refine ⟨by omega, by omega, by omega, by simp⟩
theorem split_spec : ∀ (t : RT) (i : Int), t.Ok → 0 ≤ i → i ≤ t.n → callω T 25 [vT t, vI i] [] = some (.tup [(false, [.d (enc (splitT t i).1)]), (false, [.d (enc (splitT t i).2)])], []) := by
  intro t
  induction t with
  | nil =>
    intro i o h0 h1
    refine byK (fn := Try.f25) (by kernel_rfl) (by kernel_rfl) ?_
    rw [r25]
    unfold g25
    simp only [isnil_nil]
    rfl
  | node l k a b r ihl ihr =>
    intro i o h0 h1
    refine byK (fn := Try.f25) (by kernel_rfl) (by kernel_rfl) ?_
    rw [r25]
    unfold g25
    simp only [p_node, nn_node, fx_ptr, List.drop_zero, List.drop_succ_cons, ld_any, ld_item, isnil_node, c29]
    have o' := o
    obtain ⟨o1, o2, o3⟩ := o
    simp only [RT.n, RT.wa, RT.wb] at o1 o2 o3 h1
    by_cases hc : i > l.n
    · have d1 : decide (i > (l.n : Int)) = true := decide_eq_true hc
      have hw : IntKind.wrap .i64 (IntKind.wrap .i64 (i - l.n) - 1) = i - l.n - 1 := by
        rw [wrap64 (n := i - l.n) (by omega) (by omega), wrap64 (by omega) (by omega)]
      simp only [d1, cond_true, hw]
      have sp := ihr (i - l.n - 1) o'.right (by omega) (by omega)
      have cc (F : Fr) (kk : _ → Option (DV × Heap)) := fx_call (R := DV × Heap) (F := F) (s := ⟨[(false, [.d .any]), (false, [.d .any])], []⟩) (k := kk)
        (((enc (splitT r (i - l.n - 1)).1, ()), ((enc (splitT r (i - l.n - 1)).2, ()), ())), ()) sp rfl
      obtain ⟨j1, j2, j3, _⟩ := splitT_sums r (i - l.n - 1)
      simp only [cc]
      rw [c31 l k a b _ (okI (by rw [RT.n]; omega) (by rw [RT.wa]; omega) (by rw [RT.wb]; omega))]
      simp only [splitT, if_pos hc]
    · have d1 : decide (i > (l.n : Int)) = false := decide_eq_false hc
      simp only [d1, cond_false]
      have sp := ihl i o'.left h0 (by omega)
      have cc (F : Fr) (kk : _ → Option (DV × Heap)) := fx_call (R := DV × Heap) (F := F) (s := ⟨[(false, [.d .any]), (false, [.d .any])], []⟩) (k := kk)
        (((enc (splitT l i).1, ()), ((enc (splitT l i).2, ()), ())), ()) sp rfl
      obtain ⟨j1, j2, j3, _⟩ := splitT_sums l i
      simp only [cc]
      rw [c31 _ k a b r (okI (by rw [RT.n]; omega) (by rw [RT.wa]; omega) (by rw [RT.wb]; omega))]
      simp only [splitT, if_neg hc]
section
variable {R : Type} {F : Fr}
theorem c25 (t : RT) (i : Int) (o : t.Ok) (h0 : 0 ≤ i) (h1 : i ≤ t.n) (k : _ → Option R) : (fxR T F).call 25 [vT t, vI i] [] ⟨[(false, [.d .any]), (false, [.d .any])], []⟩ k = k (((enc (splitT t i).1, ()), ((enc (splitT t i).2, ()), ())), ()) :=
  fx_call (s := ⟨[(false, [.d .any]), (false, [.d .any])], []⟩) (((enc (splitT t i).1, ()), ((enc (splitT t i).2, ()), ())), ()) (split_spec t i o h0 h1) rfl
end
end Go.Proofs.TryI
