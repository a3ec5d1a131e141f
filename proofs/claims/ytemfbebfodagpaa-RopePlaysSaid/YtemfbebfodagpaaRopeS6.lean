/- Part of a proof that the laws of this seat return true: a machine over plain data (Idl) that is sound for the given model, and its runs. Conditions: none. -/
import Derived.Test.YtemfbebfodagpaaRopeS5
set_option linter.all false
set_option linter.all false
set_option maxRecDepth 100000
namespace Go.Proofs.TryI
open Go Go.Idl Go.Proofs

/-! Balance. -/
def RT.Bal : RT → Prop
  | .nil => True
  | .node l _ _ _ r => l.Bal ∧ r.Bal ∧ l.h ≤ r.h + 1 ∧ r.h ≤ l.h + 1
theorem leanT_bal (l : RT) (k : Int) (a b : Nat) (r : RT) (bl : l.Bal) (br : r.Bal) (h1 : l.h ≤ r.h + 2) (h2 : r.h ≤ l.h + 2) :
    (leanT l k a b r).Bal ∧ max l.h r.h ≤ (leanT l k a b r).h ∧ (leanT l k a b r).h ≤ max l.h r.h + 1 ∧ (l.h ≤ r.h + 1 → r.h ≤ l.h + 1 → (leanT l k a b r).h = max l.h r.h + 1) := by
  unfold leanT
  split
  · rename_i hc
    cases l with
    | nil => simp [RT.h] at hc
    | node ll lk la lb lr =>
      simp only [RT.Bal] at bl
      obtain ⟨bll, blr, g1, g2⟩ := bl
      simp only [RT.h] at hc h1 h2 ⊢
      split
      · rename_i hd
        simp only [RT.Bal, RT.h]
        refine ⟨⟨bll, ⟨blr, br, by omega, by omega⟩, by omega, by omega⟩, by omega, by omega, by omega⟩
      · rename_i hd
        cases lr with
        | nil => simp [RT.h] at hd
        | node p mk ma mb q =>
          simp only [RT.Bal] at blr
          obtain ⟨bp, bq, g3, g4⟩ := blr
          simp only [RT.h] at hd g1 g2 hc h1 h2 ⊢
          simp only [RT.Bal, RT.h]
          refine ⟨⟨⟨bll, bp, by omega, by omega⟩, ⟨bq, br, by omega, by omega⟩, by omega, by omega⟩, by omega, by omega, by omega⟩
  · split
    · rename_i hn hc
      cases r with
      | nil => simp [RT.h] at hc
      | node rl rk ra rb rr =>
        simp only [RT.Bal] at br
        obtain ⟨brl, brr, g1, g2⟩ := br
        simp only [RT.h] at hc hn h1 h2 ⊢
        split
        · rename_i hd
          simp only [RT.Bal, RT.h]
          refine ⟨⟨⟨bl, brl, by omega, by omega⟩, brr, by omega, by omega⟩, by omega, by omega, by omega⟩
        · rename_i hd
          cases rl with
          | nil => simp [RT.h] at hd
          | node p mk ma mb q =>
            simp only [RT.Bal] at brl
            obtain ⟨bp, bq, g3, g4⟩ := brl
            simp only [RT.h] at hd g1 g2 hc hn h1 h2 ⊢
            simp only [RT.Bal, RT.h]
            refine ⟨⟨⟨bl, bp, by omega, by omega⟩, ⟨bq, brr, by omega, by omega⟩, by omega, by omega⟩, by omega, by omega, by omega⟩
    · rename_i c1 c2
      simp only [RT.Bal, RT.h]
      refine ⟨⟨bl, br, by omega, by omega⟩, by omega, by omega, by omega⟩
theorem linkT_balN (k : Int) (a b : Nat) : ∀ (m : Nat) (l r : RT), l.n + r.n ≤ m → l.Bal → r.Bal → (linkT l k a b r).Bal ∧ max l.h r.h ≤ (linkT l k a b r).h ∧ (linkT l k a b r).h ≤ max l.h r.h + 1 := by
  intro m
  induction m with
  | zero =>
    intro l r hm bl br
    have hl := l.h_le
    have hr := r.h_le
    rw [linkT.eq_def, if_neg (by omega), if_neg (by omega)]
    simp only [RT.Bal, RT.h]
    refine ⟨⟨bl, br, by omega, by omega⟩, by omega, by omega⟩
  | succ m ih =>
    intro l r hm bl br
    rw [linkT.eq_def]
    split
    · rename_i hc
      cases l with
      | nil => simp [RT.h] at hc
      | node ll lk la lb lr =>
        simp only [RT.n] at hm
        simp only [RT.Bal] at bl
        obtain ⟨bll, blr, g1, g2⟩ := bl
        obtain ⟨i1, i2, i3⟩ := ih lr r (by omega) blr br
        simp only [RT.h] at hc ⊢
        obtain ⟨j1, j2, j3, j4⟩ := leanT_bal ll lk la lb (linkT lr k a b r) bll i1 (by omega) (by omega)
        refine ⟨j1, ?_, ?_⟩
        · by_cases hx : ll.h ≤ (linkT lr k a b r).h + 1 ∧ (linkT lr k a b r).h ≤ ll.h + 1
          · rw [j4 hx.1 hx.2]; omega
          · omega
        · omega
    · split
      · rename_i hn hc
        cases r with
        | nil => simp [RT.h] at hc
        | node rl rk ra rb rr =>
          simp only [RT.n] at hm
          simp only [RT.Bal] at br
          obtain ⟨brl, brr, g1, g2⟩ := br
          obtain ⟨i1, i2, i3⟩ := ih l rl (by omega) bl brl
          simp only [RT.h] at hc hn ⊢
          obtain ⟨j1, j2, j3, j4⟩ := leanT_bal (linkT l k a b rl) rk ra rb rr i1 brr (by omega) (by omega)
          refine ⟨j1, ?_, ?_⟩
          · by_cases hx : (linkT l k a b rl).h ≤ rr.h + 1 ∧ rr.h ≤ (linkT l k a b rl).h + 1
            · rw [j4 hx.1 hx.2]; omega
            · omega
          · omega
      · rename_i c1 c2
        simp only [RT.Bal, RT.h]
        refine ⟨⟨bl, br, by omega, by omega⟩, by omega, by omega⟩
theorem linkT_bal (l : RT) (k : Int) (a b : Nat) (r : RT) (bl : l.Bal) (br : r.Bal) : (linkT l k a b r).Bal ∧ max l.h r.h ≤ (linkT l k a b r).h ∧ (linkT l k a b r).h ≤ max l.h r.h + 1 := linkT_balN k a b _ l r (Nat.le_refl _) bl br
theorem firstT_bal : ∀ (t : RT), t.n ≠ 0 → t.Bal → (firstT t).2.Bal ∧ t.h ≤ (firstT t).2.h + 1 ∧ (firstT t).2.h ≤ t.h := by
  intro t
  induction t with
  | nil => intro h; simp [RT.n] at h
  | node l k a b r ihl _ =>
    intro _ bt
    simp only [RT.Bal] at bt
    obtain ⟨bl, br, g1, g2⟩ := bt
    cases l with
    | nil =>
      simp only [firstT, RT.h] at g1 g2 ⊢
      exact ⟨br, by omega, by omega⟩
    | node l' k' a' b' r' =>
      obtain ⟨i1, i2, i3⟩ := ihl (by simp [RT.n]) bl
      rw [firstT]
      simp only
      generalize RT.node l' k' a' b' r' = l at *
      obtain ⟨j1, j2, j3, j4⟩ := leanT_bal (firstT l).2 k a b r i1 br (by omega) (by omega)
      simp only [RT.h]
      refine ⟨j1, ?_, ?_⟩
      · by_cases hx : (firstT l).2.h ≤ r.h + 1 ∧ r.h ≤ (firstT l).2.h + 1
        · rw [j4 hx.1 hx.2]; omega
        · omega
      · by_cases hx : (firstT l).2.h ≤ r.h + 1 ∧ r.h ≤ (firstT l).2.h + 1
        · rw [j4 hx.1 hx.2]; omega
        · omega
theorem joinT_bal (l r : RT) (bl : l.Bal) (br : r.Bal) : (joinT l r).Bal := by
  cases r with
  | nil => exact bl
  | node rl k a b rr =>
    obtain ⟨i1, _, _⟩ := firstT_bal (.node rl k a b rr) (by simp [RT.n]) br
    simp only [joinT]
    exact (linkT_bal l _ _ _ _ bl i1).1
theorem splitT_bal : ∀ (t : RT) (i : Int), t.Bal → (splitT t i).1.Bal ∧ (splitT t i).2.Bal := by
  intro t
  induction t with
  | nil => intro i _; exact ⟨trivial, trivial⟩
  | node l k a b r ihl ihr =>
    intro i bt
    simp only [RT.Bal] at bt
    obtain ⟨bl, br, _, _⟩ := bt
    simp only [splitT]
    split
    · obtain ⟨h1, h2⟩ := ihr (i - l.n - 1) br
      exact ⟨(linkT_bal l k a b _ bl h1).1, h2⟩
    · obtain ⟨h1, h2⟩ := ihl i bl
      exact ⟨h1, (linkT_bal _ k a b r h2 br).1⟩
theorem joinL_bal : ∀ (l : List RT) (acc : RT), acc.Bal → (∀ t ∈ l, t.Bal) → (joinL acc l).Bal := by
  intro l
  induction l with
  | nil => intro acc h _; exact h
  | cons t l ih => intro acc h hl; exact ih _ (joinT_bal acc t h (hl t (by simp))) (fun s hs => hl s (by simp [hs]))

/-- How many bits a number has. -/
def bitsN (n : Nat) : Nat := if h : n = 0 then 0 else 1 + bitsN (n / 2)
termination_by n
decreasing_by omega
theorem bitsN_lt (n : Nat) : n < 2 ^ bitsN n := by
  induction n using Nat.strongRecOn with
  | _ n ih =>
    rw [bitsN]
    split
    · omega
    · have := ih (n / 2) (by omega)
      rw [Nat.add_comm, Nat.pow_succ]
      omega
theorem bitsN_mono (n m : Nat) (h : n ≤ m) : bitsN n ≤ bitsN m := by
  induction m using Nat.strongRecOn generalizing n with
  | _ m ih =>
    rw [bitsN.eq_def n, bitsN.eq_def m]
    split
    · omega
    · split
      · omega
      · have := ih (m / 2) (by omega) (n / 2) (by omega)
        omega
theorem bitsN_succ (n : Nat) : bitsN (n + 1) ≤ bitsN n + 1 := by
  induction n using Nat.strongRecOn with
  | _ n ih =>
    rw [bitsN.eq_def (n + 1), dif_neg (by omega)]
    by_cases h0 : n = 0
    · subst h0
      have : bitsN ((0 + 1) / 2) = 0 := by rw [bitsN]; rfl
      omega
    · rcases Nat.mod_two_eq_zero_or_one n with h | h
      · have : (n + 1) / 2 = n / 2 := by omega
        rw [this, bitsN.eq_def n, dif_neg h0]
        omega
      · have e : (n + 1) / 2 = n / 2 + 1 := by omega
        rw [e, bitsN.eq_def n, dif_neg h0]
        have := ih (n / 2) (by omega)
        omega
theorem ofN_bal : ∀ (f : Nat) (l : List It), l.length ≤ f → (ofN f l).Bal ∧ (ofN f l).h = bitsN l.length := by
  intro f
  induction f with
  | zero =>
    intro l h
    have : l = [] := List.length_eq_zero_iff.1 (by omega)
    subst this
    exact ⟨trivial, by rw [bitsN]; rfl⟩
  | succ f ih =>
    intro l h
    by_cases h0 : l = []
    · subst h0
      exact ⟨trivial, by rw [bitsN]; rfl⟩
    · obtain ⟨x, h1, h2⟩ := mid l h0
      have hlen : 0 < l.length := List.length_pos_iff.2 h0
      obtain ⟨a1, a2⟩ := ih (l.take (l.length / 2)) (by rw [List.length_take]; omega)
      obtain ⟨b1, b2⟩ := ih (l.drop (l.length / 2 + 1)) (by rw [List.length_drop]; omega)
      rw [List.length_take, Nat.min_eq_left (by omega)] at a2
      rw [List.length_drop] at b2
      have m1 : bitsN (l.length - (l.length / 2 + 1)) ≤ bitsN (l.length / 2) := bitsN_mono _ _ (by omega)
      have m2 : bitsN (l.length / 2) ≤ bitsN (l.length - (l.length / 2 + 1)) + 1 := Nat.le_trans (bitsN_mono _ _ (by omega)) (bitsN_succ _)
      simp only [ofN, h1, RT.Bal, RT.h, a2, b2]
      refine ⟨⟨a1, b1, m2, by omega⟩, ?_⟩
      rw [bitsN.eq_def l.length, dif_neg (by omega)]
      omega
theorem ofT_bal (l : List It) : (ofT l).Bal := (ofN_bal _ l (Nat.le_refl _)).1
theorem bal_size : ∀ (t : RT), t.Bal → 2 ^ ((t.h + 1) / 2) ≤ t.n + 1 := by
  intro t
  induction t with
  | nil => intro _; simp [RT.h, RT.n]
  | node l k a b r ihl ihr =>
    intro bt
    simp only [RT.Bal] at bt
    obtain ⟨bl, br, g1, g2⟩ := bt
    have il := ihl bl
    have ir := ihr br
    simp only [RT.h, RT.n]
    have key : ∀ (p q x y : Nat), p ≤ q → q ≤ p + 1 → 2 ^ ((p + 1) / 2) ≤ x + 1 → 2 ^ ((q + 1) / 2) ≤ y + 1 → 2 ^ ((1 + q + 1) / 2) ≤ x + y + 2 := by
      intro p q x y h1 h2 h3 h4
      rcases Nat.mod_two_eq_zero_or_one q with h | h
      · have e1 : (1 + q + 1) / 2 = q / 2 + 1 := by omega
        have e2 : (q + 1) / 2 = q / 2 := by omega
        have e3 : (p + 1) / 2 = q / 2 := by omega
        rw [e2] at h4
        rw [e3] at h3
        rw [e1, Nat.pow_succ]
        omega
      · have e1 : (1 + q + 1) / 2 = (q + 1) / 2 := by omega
        rw [e1]
        omega
    rcases Nat.le_total l.h r.h with h | h
    · rw [Nat.max_eq_right h]
      have := key l.h r.h l.n r.n h g2 il ir
      omega
    · rw [Nat.max_eq_left h]
      have := key r.h l.h r.n l.n h g1 ir il
      omega
theorem bal_height (t : RT) (b : t.Bal) : t.h ≤ 2 * bitsN t.n := by
  have h1 := bal_size t b
  have h2 := bitsN_lt t.n
  have h3 : (t.h + 1) / 2 ≤ bitsN t.n := by
    rcases Nat.lt_or_ge (bitsN t.n) ((t.h + 1) / 2) with h | h
    · have : 2 ^ (bitsN t.n + 1) ≤ 2 ^ ((t.h + 1) / 2) := Nat.pow_le_pow_right (by omega) h
      rw [Nat.pow_succ] at this
      omega
    · exact h
  omega
end Go.Proofs.TryI
