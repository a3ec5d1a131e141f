/- Part of a proof that the laws of this seat return true: a machine over plain data (Idl) that is sound for the given model, and its runs. Conditions: none. -/
import Derived.Test.YtemfbebfodagpaaRopeS4
import Derived.Test.YtemfbebfodagpaaGL4
set_option linter.all false
set_option linter.all false
set_option maxRecDepth 100000
namespace Go.Proofs.TryI
open Go Go.Idl Go.Proofs

def shIts (m : Nat) : List It := (List.range m).map fun (k : Nat) => (⟨(k : Int), (k % 2, k)⟩ : It)
theorem shIts_succ (m : Nat) : shIts (m + 1) = shIts m ++ [⟨(m : Int), (m % 2, m)⟩] := by simp [shIts, List.range_succ]
theorem shIts_len (m : Nat) : (shIts m).length = m := by simp [shIts]
theorem shIts_sums (m : Nat) : sA (shIts m) ≤ m ∧ sB (shIts m) ≤ m * m := by
  induction m with
  | zero => simp [shIts, sA, sB]
  | succ m ih =>
    rw [shIts_succ, sA_append, sB_append]
    simp only [sA, sB]
    have : (m + 1) * (m + 1) = m * m + 2 * m + 1 := by rw [Nat.add_mul, Nat.mul_add]; omega
    omega
theorem sh_loop {x : DV × Heap} {kk : Ex → St → Option (DV × Heap)} (i4 i5 i6 i8 : Int) (b7 : Bool) (m : Nat) (hm : m ≤ 80) (hk : ∀ b, kk (.exit 0) (sx4_0_0 i4 i5 i6 b7 i8 m m b (eIts (shIts m))) = some x) : ∀ (n : Nat), n ≤ m →
    lpk T (frOf T 4 Try.f4 0) 0 [0, 1, 2, 6, 7, 8, 25, 26] (bodyAt 0 0 (bodyOf Try.f4)) (st4_0 i4 i5 i6 b7 i8 m ((m - n : Nat) : Int) (eIts (shIts (m - n)))) kk = some x := by
  intro n
  induction n with
  | zero =>
    intro _
    refine lpk_go kx ?_
    rw [rl4_0]
    simpa [gl4_0] using hk (decide ((m : Int) < m))
  | succ n ih =>
    intro hn
    refine lpk_go kx ?_
    rw [rl4_0]
    obtain ⟨j, hj, hj2⟩ : ∃ j, m - (n + 1) = j ∧ m - n = j + 1 := ⟨m - (n + 1), rfl, by omega⟩
    have ih := ih (by omega)
    rw [hj]
    rw [hj2, shIts_succ] at ih
    have e3 : IntKind.wrap .i64 ((j : Int) + 1) = ((j + 1 : Nat) : Int) := by rw [wrap64 (by omega) (by omega)]; omega
    have e4 : decide ((j : Int) < (m : Int)) = true := decide_eq_true (by omega)
    have e5 : Int.tmod (j : Int) 2 = ((j % 2 : Nat) : Int) := rfl
    have e6 : decide ((eIts (shIts j)).length + 1 ≤ 1048576) = true := by
      rw [List.length_map, shIts_len]
      exact decide_eq_true (by omega)
    have e7 : eIts (shIts j) ++ [[D.int .i64 (j : Int), D.cpx .f64 (FN (j % 2)) (FN j)]] = eIts (shIts j ++ [⟨(j : Int), (j % 2, j)⟩]) := by simp [eIt, cp]
    simp only [gl4_0, e4, cond_true, fx_chk, e5, c9, e6, e3, e7]
    exact ih

theorem shares (n i j : Int) : callω T 4 [vI n, vI i, vI j] [] = some (.val false [.d (.bool true)], []) := by
  refine byK (fn := Try.f4) (by kernel_rfl) (by kernel_rfl) ?_
  rw [r4]
  unfold g4
  have hw := win_in n 1 80 (by omega)
  rw [c15 n 1 80 (by omega) (by omega) (by omega)]
  obtain ⟨m, hm⟩ : ∃ m : Nat, win n 1 80 = m := ⟨(win n 1 80).toNat, by omega⟩
  rw [hm] at hw
  simp only [hm, fx_lp]
  have hm80 : m ≤ 80 := by omega
  have h := sh_loop (x := (.val false [.d (.bool true)], [])) (kk := contAt T kt (fxR T (frOf T 4 Try.f4 0)) (frOf T 4 Try.f4 0) 0 0 (bodyOf Try.f4) (endK T 4 Try.f4 0)) n i j m false m hm80 (by
    intro bb
    rw [ra4_0_0]
    unfold ga4_0_0
    have hlen := shIts_len m
    obtain ⟨sa, sb⟩ := shIts_sums m
    have hmm : m * m ≤ 80 * 80 := Nat.mul_le_mul hm80 hm80
    generalize shIts m = its at hlen sa sb
    have o : Small its := ⟨by omega, by omega, by omega⟩
    rw [c8 its o]
    simp only
    have hi := ofT_items its
    generalize ofT its = r at hi
    have or : r.Ok := by rw [ok_iff, hi]; exact o
    have wi := win_in i 0 m (by omega)
    have wj := win_in j 0 m (by omega)
    rw [c15 i 0 m (by omega) (by omega) (by omega)]
    simp only
    rw [c10 r _ or]
    simp only
    rw [c15 j 0 m (by omega) (by omega) (by omega)]
    simp only
    rw [c10 r _ or]
    simp only
    have si : (splitR r (win i 0 m)).1.items ++ (splitR r (win i 0 m)).2.items = its := by rw [← hi]; exact (splitT_sums r _).2.2.2
    have sj : (splitR r (win j 0 m)).1.items ++ (splitR r (win j 0 m)).2.items = its := by rw [← hi]; exact (splitT_sums r _).2.2.2
    generalize splitR r (win i 0 m) = ab at si
    generalize splitR r (win j 0 m) = cd at sj
    obtain ⟨a, b⟩ := ab
    obtain ⟨c, d⟩ := cd
    simp only at si sj
    have e8 (F : Fr) := c8 (R := DV × Heap) (F := F) [⟨-1, (0, 0)⟩] ⟨by simp, by simp [sA], by simp [sB]⟩
    simp only [eIts, List.map_cons, List.map_nil, eIt, cp, FN_zero] at e8
    rw [e8]
    simp only
    have he := ofT_items [⟨-1, (0, 0)⟩]
    generalize ofT [⟨-1, (0, 0)⟩] = ee at he
    -- sizes
    have l1 := congrArg List.length si
    have l2 := congrArg List.length sj
    have a1 := congrArg sA si
    have a2 := congrArg sA sj
    have b1 := congrArg sB si
    have b2 := congrArg sB sj
    rw [List.length_append] at l1 l2
    rw [sA_append] at a1 a2
    rw [sB_append] at b1 b2
    have smallx : Small (allI [b, ee, a]) := by
      simp only [allI, he, List.append_nil]
      refine ⟨?_, ?_, ?_⟩
      · simp; omega
      · simp [sA_append, sA]; omega
      · simp [sB_append, sB]; omega
    have smally : Small (allI [d, d, c]) := by
      simp only [allI, List.append_nil]
      refine ⟨?_, ?_, ?_⟩
      · simp; omega
      · simp [sA_append, sA]; omega
      · simp [sB_append, sB]; omega
    have e11 (F : Fr) := c11 (R := DV × Heap) (F := F) [b, ee, a] smallx (by simp)
    have e11' (F : Fr) := c11 (R := DV × Heap) (F := F) [d, d, c] smally (by simp)
    simp only [eRs, List.map_cons, List.map_nil, eR] at e11 e11'
    rw [e11]
    simp only
    rw [e11']
    simp only
    have hx : (joinL .nil [b, ee, a]).items = b.items ++ [⟨-1, (0, 0)⟩] ++ a.items := by rw [joinL_items]; simp [RT.items, allI, he]
    have hy : (joinL .nil [d, d, c]).items = d.items ++ d.items ++ c.items := by rw [joinL_items]; simp [RT.items, allI]
    generalize joinL .nil [b, ee, a] = x at hx
    generalize joinL .nil [d, d, c] = y at hy
    have small (t : RT) (h : t.items.length ≤ 1000) : t.n < 1000000 := by rw [t.n_items]; omega
    have na := small a (by omega)
    have nb := small b (by omega)
    have nc := small c (by omega)
    have nd := small d (by omega)
    have nx := small x (by rw [hx]; simp; omega)
    have ny := small y (by rw [hy]; simp; omega)
    have nr := small r (by rw [hi]; omega)
    rw [c12 a na]
    simp only
    rw [c12 b nb]
    simp only
    rw [c12 c nc]
    simp only
    rw [c12 d nd]
    simp only
    have k1 : decide (0 + (eIts b.items).length ≤ 1048576) = true := by rw [List.length_map]; exact decide_eq_true (by omega)
    have k2 : decide (List.length ([] ++ eIts b.items) + 1 ≤ 1048576) = true := by rw [List.nil_append, List.length_map]; exact decide_eq_true (by omega)
    have k3 : decide (List.length ([] ++ eIts b.items ++ [[D.int .i64 (-1), D.cpx .f64 0 0]]) + (eIts a.items).length ≤ 1048576) = true := by simp; omega
    have k4 : decide (0 + (eIts d.items).length ≤ 1048576) = true := by rw [List.length_map]; exact decide_eq_true (by omega)
    have k5 : decide (List.length ([] ++ eIts d.items) + (eIts d.items).length ≤ 1048576) = true := by simp; omega
    have k6 : decide (List.length ([] ++ eIts d.items ++ eIts d.items) + (eIts c.items).length ≤ 1048576) = true := by simp; omega
    have k7 : decide (0 + (eIts a.items).length ≤ 1048576) = true := by rw [List.length_map]; exact decide_eq_true (by omega)
    have k8 : decide (List.length ([] ++ eIts a.items) + (eIts b.items).length ≤ 1048576) = true := by simp; omega
    have q1 : [] ++ eIts b.items ++ [[D.int .i64 (-1), D.cpx .f64 0 0]] ++ eIts a.items = eIts x.items := by rw [hx]; simp [eIt, cp, FN_zero]
    have q2 : [] ++ eIts d.items ++ eIts d.items ++ eIts c.items = eIts y.items := by rw [hy]; simp
    have q3 : [] ++ eIts a.items ++ eIts b.items = eIts its := by rw [← si]; simp
    simp only [fx_chk, k1, k2, k3, k4, k5, k6, k7, k8, cond_true, q1, q2, q3]
    have smx : Small x.items := by
      rw [hx]
      refine ⟨?_, ?_, ?_⟩
      · simp; omega
      · simp [sA_append, sA]; omega
      · simp [sB_append, sB]; omega
    have smy : Small y.items := by
      rw [hy]
      refine ⟨?_, ?_, ?_⟩
      · simp; omega
      · simp [sA_append, sA]; omega
      · simp [sB_append, sB]; omega
    rw [c12 x nx]
    simp only
    rw [c16 _ smx]
    simp only [cond_true]
    rw [c12 y ny]
    simp only
    rw [c16 _ smy]
    simp only [cond_true]
    rw [c12 r nr]
    simp only [hi]
    rw [c16 _ o]
    simp only [cond_true]
    rw [c16 _ o]
    simp only [cond_true, c17]
    have ya := congrArg sA hy
    have yb := congrArg sB hy
    rw [sA_append, sA_append] at ya
    rw [sB_append, sB_append] at yb
    rw [← y.wa_items, ← d.wa_items, ← c.wa_items] at ya
    rw [← y.wb_items, ← d.wb_items, ← c.wb_items] at yb
    have oy : y.Ok := by rw [ok_iff]; exact smy
    have e18 (F : Fr) := c18 (R := DV × Heap) (F := F) [(d.wa, d.wb), (d.wa, d.wb), (c.wa, c.wb)] (by have := oy.2.1; simp [sumM]; omega) (by have := oy.2.2; simp [sumM]; omega) (by simp)
    simp only [eMs, List.map_cons, List.map_nil, eM, cp] at e18
    rw [e18]
    simp only [sumM]
    have z1 : d.wa + (d.wa + (c.wa + 0)) = y.wa := by omega
    have z2 : d.wb + (d.wb + (c.wb + 0)) = y.wb := by omega
    rw [z1, z2, floatEq_self (by have := oy.2.1; omega), floatEq_self (by have := oy.2.2; omega)]
    simp only [Bool.and_self, cond_true]
    rw [c3]) m (Nat.le_refl _)
  simpa [shIts] using h
end Go.Proofs.TryI
