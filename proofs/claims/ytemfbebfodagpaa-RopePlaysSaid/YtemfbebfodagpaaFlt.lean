/- Part of a proof that the laws of this seat return true: a machine over plain data (Idl) that is sound for the given model, and its runs. Conditions: none. -/
import Derived.Laws.FloatArith
set_option linter.all false
namespace Go.Idl
open Go Ieee
/-! Whole numbers as float64: sums are exact while they are small. -/
def FN (n : Nat) : Nat := FloatKind.nearest .f64 (n : Int)
theorem FN_eq (n : Nat) : FN n = double.nearest false n 0 := by
  show double.write (.number (decide ((n : Int) < 0)) (n : Int).natAbs 0) = _
  have : decide ((n : Int) < 0) = false := by simp
  rw [this]
  rfl
theorem log2_mul_pow {c k : Nat} (h : c ≠ 0) : (c * 2 ^ k).log2 = c.log2 + k := by
  have h1 : 2 ^ c.log2 ≤ c := Nat.log2_self_le h
  have h2 : c < 2 ^ (c.log2 + 1) := Nat.lt_log2_self
  have h3 : c * 2 ^ k ≠ 0 := by
    have := Nat.two_pow_pos k
    exact Nat.mul_ne_zero h (by omega)
  have h4 : 2 ^ (c.log2 + k) ≤ c * 2 ^ k := by rw [Nat.pow_add]; exact Nat.mul_le_mul_right _ h1
  have h5 : c * 2 ^ k < 2 ^ (c.log2 + k + 1) := by
    rw [show c.log2 + k + 1 = (c.log2 + 1) + k from by omega, Nat.pow_add]
    exact Nat.mul_lt_mul_of_pos_right h2 (Nat.two_pow_pos k)
  exact (Nat.log2_eq_iff h3).2 ⟨h4, h5⟩
theorem leastPlace : double.leastPlace = -1074 := by decide
/-- What is rounded is exact: a small whole number, however it is written. -/
theorem nearest_exact {c k : Nat} (h0 : c ≠ 0) (hc : c < 2 ^ 53) (hk : k ≤ 1074) : double.nearest false (c * 2 ^ k) (-(k : Int)) = (c.log2 + 1022) * 2 ^ 52 + c * 2 ^ (52 - c.log2) := by
  have hlog : c.log2 ≤ 52 := by
    have : c.log2 < 53 := (Nat.log2_lt h0).2 hc
    omega
  have hne : c * 2 ^ k ≠ 0 := Nat.mul_ne_zero h0 (by have := Nat.two_pow_pos k; omega)
  unfold Format.nearest
  rw [if_neg hne]
  simp only [log2_mul_pow h0, leastPlace]
  have hfb : double.fractionBits = 52 := rfl
  rw [hfb]
  have hlast : max (-(k : Int) + ((c.log2 + k : Nat) : Int) - ((52 : Nat) : Int)) (-1074) = (c.log2 : Int) - 52 := by omega
  rw [hlast]
  have hkept : Toward.even.cut false ((c * 2 ^ k) <<< (-(k : Int) - ((c.log2 : Int) - 52)).toNat) (((c.log2 : Int) - 52) - -(k : Int)).toNat = c * 2 ^ (52 - c.log2) := by
    have cutx : ∀ (n d : Nat), d ≤ (n * 2 ^ d).log2 + 2 → Toward.even.cut false (n * 2 ^ d) d = n := by
      intro n d hd
      have hmin : min d ((n * 2 ^ d).log2 + 2) = d := Nat.min_eq_left hd
      unfold Toward.cut
      simp only [hmin, Nat.one_shiftLeft]
      have hp := Nat.two_pow_pos d
      have h1 : n * 2 ^ d / 2 ^ d = n := Nat.mul_div_cancel _ hp
      have h2 : n * 2 ^ d % 2 ^ d = 0 := Nat.mul_mod_left _ _
      simp only [h1, h2]
      have h3 : decide (2 ^ d < 2 * 0) = false := by simp
      have h4 : (2 ^ d == 2 * 0) = false := by rw [beq_eq_false_iff_ne]; omega
      simp [h3, h4]
    rcases Nat.lt_or_ge (52 - c.log2) k with hlt | hge
    · have e1 : (-(k : Int) - ((c.log2 : Int) - 52)).toNat = 0 := by omega
      have e2 : (((c.log2 : Int) - 52) - -(k : Int)).toNat = k - (52 - c.log2) := by omega
      rw [e1, e2, Nat.shiftLeft_zero]
      have e3 : c * 2 ^ k = (c * 2 ^ (52 - c.log2)) * 2 ^ (k - (52 - c.log2)) := by
        rw [Nat.mul_assoc, ← Nat.pow_add]
        congr 2
        omega
      rw [e3]
      refine cutx _ _ ?_
      rw [← e3, log2_mul_pow h0]
      omega
    · have e1 : (-(k : Int) - ((c.log2 : Int) - 52)).toNat = (52 - c.log2) - k := by omega
      have e2 : (((c.log2 : Int) - 52) - -(k : Int)).toNat = 0 := by omega
      rw [e1, e2, Nat.shiftLeft_eq]
      have e3 : c * 2 ^ k * 2 ^ (52 - c.log2 - k) = c * 2 ^ (52 - c.log2) := by
        rw [Nat.mul_assoc, ← Nat.pow_add]
        congr 2
        omega
      rw [e3]
      have := cutx (c * 2 ^ (52 - c.log2)) 0 (by omega)
      simpa using this
  rw [hkept]
  have hbin : double.binade = 2 ^ 52 := rfl
  have hinf : double.infRung = 2047 * 2 ^ 52 := by decide
  rw [hbin, hinf]
  have h52 : c * 2 ^ (52 - c.log2) < 2 ^ 53 := by
    have h2 : c < 2 ^ (c.log2 + 1) := Nat.lt_log2_self
    calc c * 2 ^ (52 - c.log2) < 2 ^ (c.log2 + 1) * 2 ^ (52 - c.log2) := Nat.mul_lt_mul_of_pos_right h2 (Nat.two_pow_pos _)
      _ = 2 ^ 53 := by rw [← Nat.pow_add]; congr 1; omega
  have e4 : ((c.log2 : Int) - 52 - -1074).toNat = c.log2 + 1022 := by omega
  rw [e4]
  have hmin : min ((c.log2 + 1022) * 2 ^ 52 + c * 2 ^ (52 - c.log2)) (2047 * 2 ^ 52) = (c.log2 + 1022) * 2 ^ 52 + c * 2 ^ (52 - c.log2) := by
    apply Nat.min_eq_left
    omega
  rw [hmin]
  rfl
theorem FN_zero : FN 0 = 0 := by decide
theorem FN_pos {c : Nat} (h0 : c ≠ 0) (hc : c < 2 ^ 53) : FN c = (c.log2 + 1022) * 2 ^ 52 + c * 2 ^ (52 - c.log2) := by
  rw [FN_eq]
  have := nearest_exact (k := 0) h0 hc (by omega)
  simpa using this
set_option exponentiation.threshold 2000 in
/-- A small whole number, read. -/
theorem read_FN {c : Nat} (hc : c < 2 ^ 53) : ∃ i : Nat, i ≤ 1074 ∧ double.read (FN c) = .number false (c * 2 ^ i) (-(i : Int)) := by
  by_cases h0 : c = 0
  · subst h0
    refine ⟨1074, Nat.le_refl _, ?_⟩
    rw [FN_zero, Nat.zero_mul]
    decide
  · have hlog : c.log2 ≤ 52 := by
      have : c.log2 < 53 := (Nat.log2_lt h0).2 hc
      omega
    refine ⟨52 - c.log2, by omega, ?_⟩
    rw [FN_pos h0 hc]
    have h1 : 2 ^ 52 ≤ c * 2 ^ (52 - c.log2) := by
      have h2 : 2 ^ c.log2 ≤ c := Nat.log2_self_le h0
      calc 2 ^ 52 = 2 ^ c.log2 * 2 ^ (52 - c.log2) := by rw [← Nat.pow_add]; congr 1; omega
        _ ≤ c * 2 ^ (52 - c.log2) := Nat.mul_le_mul_right _ h2
    have h52 : c * 2 ^ (52 - c.log2) < 2 ^ 53 := by
      have h2 : c < 2 ^ (c.log2 + 1) := Nat.lt_log2_self
      calc c * 2 ^ (52 - c.log2) < 2 ^ (c.log2 + 1) * 2 ^ (52 - c.log2) := Nat.mul_lt_mul_of_pos_right h2 (Nat.two_pow_pos _)
        _ = 2 ^ 53 := by rw [← Nat.pow_add]; congr 1; omega
    generalize hq : c * 2 ^ (52 - c.log2) = q at h1 h52
    generalize hl : c.log2 = l at hlog
    have hs : double.signWeight = 2 ^ 63 := rfl
    have hbin : double.binade = 2 ^ 52 := rfl
    have hinf : double.infRung = 2047 * 2 ^ 52 := by decide
    have g1 : (l + 1022) * 2 ^ 52 + q < 2 ^ 63 := by omega
    unfold Format.read
    simp only [hs, hbin, hinf, leastPlace]
    have g2 : ((l + 1022) * 2 ^ 52 + q) / 2 ^ 63 = 0 := Nat.div_eq_of_lt g1
    have g3 : ((l + 1022) * 2 ^ 52 + q) % 2 ^ 63 = (l + 1022) * 2 ^ 52 + q := Nat.mod_eq_of_lt g1
    rw [g2, g3, if_neg (by omega), if_pos (by omega)]
    have g4 : ((l + 1022) * 2 ^ 52 + q) % 2 ^ 52 = q - 2 ^ 52 := by omega
    have g5 : ((l + 1022) * 2 ^ 52 + q) / 2 ^ 52 = l + 1023 := by omega
    rw [g4, g5]
    have g6 : 2 ^ 52 + (q - 2 ^ 52) = q := by omega
    rw [g6]
    have g7 : (-1074 : Int) + ((l + 1023 - 1 : Nat) : Int) = -((52 - l : Nat) : Int) := by omega
    rw [g7]
    rfl
theorem FN_add {a b : Nat} (h : a + b < 2 ^ 53) : double.add (FN a) (FN b) = some (FN (a + b)) := by
  obtain ⟨i, hi, ra⟩ := read_FN (c := a) (by omega)
  obtain ⟨j, hj, rb⟩ := read_FN (c := b) (by omega)
  unfold Format.add
  rw [ra, rb]
  simp only [Datum.sum, Option.map_some, Option.some.injEq]
  have key : ∀ (m : Nat), i ≤ m → j ≤ m → min (-(i : Int)) (-(j : Int)) = -(m : Int) →
      signed false (a * 2 ^ i) (-(i : Int) - min (-(i : Int)) (-(j : Int))).toNat + signed false (b * 2 ^ j) (-(j : Int) - min (-(i : Int)) (-(j : Int))).toNat = (((a + b) * 2 ^ m : Nat) : Int) := by
    intro m h1 h2 h3
    rw [h3]
    have e1 : (-(i : Int) - -(m : Int)).toNat = m - i := by omega
    have e2 : (-(j : Int) - -(m : Int)).toNat = m - j := by omega
    rw [e1, e2]
    simp only [signed, Bool.false_eq_true, if_false, Nat.shiftLeft_eq]
    rw [Nat.mul_assoc, ← Nat.pow_add, Nat.mul_assoc, ← Nat.pow_add, show i + (m - i) = m from by omega, show j + (m - j) = m from by omega, Nat.add_mul]
    simp
  obtain ⟨m, hm1, hm2, hm, hmk⟩ : ∃ m : Nat, i ≤ m ∧ j ≤ m ∧ m ≤ 1074 ∧ min (-(i : Int)) (-(j : Int)) = -(m : Int) := ⟨max i j, by omega, by omega, by omega, by omega⟩
  rw [key m hm1 hm2 hmk, hmk]
  by_cases h0 : a + b = 0
  · rw [h0, FN_zero]
    simp [Format.write, Format.nearest, Format.word]
  · have hpos : 0 < (a + b) * 2 ^ m := Nat.mul_pos (by omega) (Nat.two_pow_pos m)
    have hn : ¬ ((((a + b) * 2 ^ m : Nat) : Int) = 0) := by omega
    have hlt : decide ((((a + b) * 2 ^ m : Nat) : Int) < 0) = false := decide_eq_false (Int.not_lt.2 (Int.natCast_nonneg _))
    rw [if_neg hn, hlt, Int.natAbs_natCast]
    show double.nearest false _ _ = _
    rw [nearest_exact h0 h hm, FN_pos h0 h]
theorem FN_int {a : Nat} (h : a < 2 ^ 53) : (FloatKind.decode .f64 (FN a)).toInt .zero = some (a : Int) := by
  obtain ⟨i, hi, ra⟩ := read_FN h
  show ((double.read (FN a)).toInt .zero) = _
  rw [ra]
  simp only [Datum.toInt, Datum.integral]
  have e1 : (-(i : Int)).toNat = 0 := by omega
  have e2 : (- -(i : Int)).toNat = i := by omega
  rw [e1, e2, Nat.shiftLeft_zero]
  have hcut : Toward.zero.cut false (a * 2 ^ i) i = a := by
    by_cases h0 : a = 0
    · subst h0; simp [Toward.cut]
    · have hmin : min i ((a * 2 ^ i).log2 + 2) = i := by rw [log2_mul_pow h0]; omega
      unfold Toward.cut
      simp only [hmin, Nat.one_shiftLeft, Nat.mul_div_cancel _ (Nat.two_pow_pos i)]
      simp
  rw [hcut]
  simp [signed]
theorem FN_cmp {a b : Nat} (ha : a < 2 ^ 53) (hb : b < 2 ^ 53) : double.order (FN a) (FN b) = some (compare a b) := by
  obtain ⟨i, hi, ra⟩ := read_FN ha
  obtain ⟨j, hj, rb⟩ := read_FN hb
  unfold Format.order
  rw [ra, rb]
  simp only [Datum.order, Option.some.injEq]
  obtain ⟨m, hm1, hm2, hm, hmk⟩ : ∃ m : Nat, i ≤ m ∧ j ≤ m ∧ m ≤ 1074 ∧ min (-(i : Int)) (-(j : Int)) = -(m : Int) := ⟨max i j, by omega, by omega, by omega, by omega⟩
  rw [hmk]
  have e1 : (-(i : Int) - -(m : Int)).toNat = m - i := by omega
  have e2 : (-(j : Int) - -(m : Int)).toNat = m - j := by omega
  rw [e1, e2]
  simp only [signed, Bool.false_eq_true, if_false, Nat.shiftLeft_eq]
  rw [Nat.mul_assoc, ← Nat.pow_add, Nat.mul_assoc, ← Nat.pow_add, show i + (m - i) = m from by omega, show j + (m - j) = m from by omega]
  have hp := Nat.two_pow_pos m
  have hlt : ((a * 2 ^ m : Nat) : Int) < ((b * 2 ^ m : Nat) : Int) ↔ a < b := by
    rw [Int.ofNat_lt]
    exact ⟨fun h => Nat.lt_of_mul_lt_mul_right h, fun h => Nat.mul_lt_mul_of_pos_right h hp⟩
  have heq : ((a * 2 ^ m : Nat) : Int) = ((b * 2 ^ m : Nat) : Int) ↔ a = b := by
    rw [Int.ofNat_inj]
    exact ⟨fun h => Nat.eq_of_mul_eq_mul_right hp h, fun h => by rw [h]⟩
  simp only [compare, compareOfLessAndEq, hlt, heq]
end Go.Idl
