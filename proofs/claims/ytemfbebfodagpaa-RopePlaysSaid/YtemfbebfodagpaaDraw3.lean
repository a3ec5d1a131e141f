/- Part of a proof that the laws of this seat return true: a machine over plain data (Idl) that is sound for the given model, and its runs. Conditions: none. -/
import Derived.Test.YtemfbebfodagpaaDraw2
set_option linter.all false
set_option linter.unusedSectionVars false
namespace Go.Idl
open Go

theorem clash_right {t u : Touch} {ks : List Nat} {k : Nat} (h : t.clash u = false) (hu : u = .writes ks) (hk : k ∈ ks) (ht : k ∈ t.keys) : False := by
  subst hu
  cases t with
  | none => simp [Touch.keys] at ht
  | reads a => simp only [Touch.clash, List.any_eq_false] at h; exact h k ht (memN_iff.2 hk)
  | writes a => simp only [Touch.clash, List.any_eq_false] at h; exact h k ht (memN_iff.2 hk)
theorem clash_left {t u : Touch} {ks : List Nat} {k : Nat} (h : t.clash u = false) (ht : t = .writes ks) (hk : k ∈ ks) (hu : k ∈ u.keys) : False := by
  subst ht
  cases u with
  | none => simp [Touch.keys] at hu
  | reads a => simp only [Touch.clash, List.any_eq_false] at h; exact h k hk (memN_iff.2 hu)
  | writes a => simp only [Touch.clash, List.any_eq_false] at h; exact h k hk (memN_iff.2 hu)

def Hc (S : Nat → St) (R : Nat → Rec) (n : Nat) (L : Nat → Bool) : Heap := (List.range (S n).heap.length).map (cont S R L n)
theorem Hc_get {S : Nat → St} {R : Nat → Rec} {n : Nat} {L : Nat → Bool} {k : Nat} {o : Ob} : (Hc S R n L)[k]? = some o ↔ k < (S n).heap.length ∧ cont S R L n k = o := by
  unfold Hc
  rw [List.getElem?_map]
  by_cases hk : k < (S n).heap.length
  · simp [hk]
  · simp [hk]
theorem Hc_len {S : Nat → St} {R : Nat → Rec} {n : Nat} {L : Nat → Bool} : (Hc S R n L).length = (S n).heap.length := by simp [Hc]

def Closed (ops : Array Oper) (L : Nat → Bool) : Prop := ∀ i, i < ops.size → L i = true → ∀ j, (bef ops i).testBit j = true → L j = true
def addL (L : Nat → Bool) (i : Nat) : Nat → Bool := fun j => if j = i then true else L j

section
variable {T : Tab} {call : CallF} {mv : Bool} {nt : Nat} {ops : Array Oper} {S : Nat → St} {R : Nat → Rec} (tr : Trc T call mv nt ops S R)
include tr

theorem wr_run {i k : Nat} (h : wr S R i k = true) : (R i).run = true := by unfold wr at h; simp only [Bool.and_eq_true] at h; exact h.1
theorem wr_case {i k : Nat} (h : wr S R i k = true) : (∃ ks, (R i).t = .writes ks ∧ k ∈ ks ∧ k < (S i).heap.length) ∨ ((S i).heap.length ≤ k ∧ k < (S (i + 1)).heap.length) := by
  unfold wr at h
  simp only [Bool.and_eq_true, Bool.or_eq_true, decide_eq_true_eq] at h
  rcases h.2 with h | h
  · split at h
    · rename_i ks ht
      simp only [Bool.and_eq_true, decide_eq_true_eq] at h
      exact .inl ⟨ks, ht, memN_iff.1 h.1, h.2⟩
    · cases h
  · exact .inr h
def Tch (S : Nat → St) (R : Nat → Rec) (i k : Nat) : Prop := (k ∈ (R i).t.keys ∧ k < (S i).heap.length) ∨ ((S i).heap.length ≤ k ∧ k < (S (i + 1)).heap.length)
theorem wr_tch {i k : Nat} (h : wr S R i k = true) : Tch S R i k := by
  rcases wr_case tr h with ⟨ks, h1, h2, h3⟩ | h
  · exact .inl ⟨by rw [h1]; exact h2, h3⟩
  · exact .inr h

theorem apart_old {i j k : Nat} (hji : j < i) (hi : i < ops.size) (hr : (R i).run = true) (hw : wr S R j k = true) (hk : k ∈ (R i).t.keys) : (bef ops i).testBit j = true := by
  rcases tr.ap j i hji hi (wr_run tr hw) hr with h | ⟨h1, h2⟩
  · exact h
  · exfalso
    rcases wr_case tr hw with ⟨ks, g1, g2, g3⟩ | g
    · exact clash_right h1 g1 g2 hk
    · have := h2 k hk; simp only at this; omega
theorem apart_new {i j k : Nat} (hij : i < j) (hj : j < ops.size) (hr : (R i).run = true) (hw : wr S R j k = true) (hk : Tch S R i k) : (bef ops j).testBit i = true := by
  rcases tr.ap i j hij hj hr (wr_run tr hw) with h | ⟨h1, h2⟩
  · exact h
  · exfalso
    have hle := tr.len (i := i + 1) (j := j) (by omega) (by omega)
    have hle0 := tr.len1 (i := i) (by omega)
    rcases wr_case tr hw with ⟨ks, g1, g2, g3⟩ | g
    · rcases hk with ⟨q1, q2⟩ | q
      · exact clash_left h1 g1 g2 q1
      · have := h2 k (by rw [g1]; exact g2); simp only at this; omega
    · rcases hk with ⟨q1, q2⟩ | q <;> omega

theorem contA {L : Nat → Bool} (hcl : Closed ops L) {i k : Nat} (hi : i < ops.size) (hL : L i = false) (hr : (R i).run = true) (hpre : ∀ j, (bef ops i).testBit j = true → L j = true) (hk : k ∈ (R i).t.keys) (hkl : k < (S i).heap.length) :
    cont S R L ops.size k = cont S R (fun _ => true) i k := by
  have s1 : ∀ m, m ≤ i → cont S R L m k = cont S R (fun _ => true) m k := by
    intro m
    induction m with
    | zero => intro _; rfl
    | succ m ih =>
      intro hm
      simp only [cont, Bool.true_and]
      cases hw : wr S R m k with
      | true => rw [hpre m (apart_old tr (by omega) hi hr hw hk)]; simp
      | false => simp; exact ih (by omega)
  have s2 : ∀ m, i ≤ m → m ≤ ops.size → cont S R L m k = cont S R L i k := by
    intro m
    induction m with
    | zero => intro h _; have : i = 0 := by omega
              subst this; rfl
    | succ m ih =>
      intro h hm
      rcases Nat.lt_or_ge i (m + 1) with h' | h'
      · simp only [cont]
        have hno : (L m && wr S R m k) = false := by
          cases hw : wr S R m k with
          | false => simp
          | true =>
            cases hLm : L m with
            | false => rfl
            | true =>
              exfalso
              rcases Nat.lt_or_ge i m with h2 | h2
              · have := hcl m (by omega) hLm i (apart_new tr h2 (by omega) hr hw (.inl ⟨hk, hkl⟩))
                rw [hL] at this; cases this
              · have : m = i := by omega
                subst this
                rw [hL] at hLm; cases hLm
        rw [hno]
        simp only [Bool.false_eq_true, if_false]
        exact ih (by omega) (by omega)
      · have : i = m + 1 := by omega
        subst this; rfl
  rw [s2 ops.size (by omega) (Nat.le_refl _), s1 i (Nat.le_refl _)]

theorem contB {L : Nat → Bool} (hcl : Closed ops L) {i : Nat} (hi : i < ops.size) (hL : L i = false) (k : Nat) :
    cont S R (addL L i) ops.size k = if wr S R i k = true then ((R i).hm[k]?).getD .dead else cont S R L ops.size k := by
  cases hw : wr S R i k with
  | false =>
    simp only [Bool.false_eq_true, if_false]
    have : ∀ m, cont S R (addL L i) m k = cont S R L m k := by
      intro m
      induction m with
      | zero => rfl
      | succ m ih =>
        simp only [cont]
        by_cases hm : m = i
        · subst hm; rw [hw]; simpa using ih
        · rw [show addL L i m = L m from by simp [addL, hm], ih]
    exact this _
  | true =>
    simp only [if_true]
    have : ∀ m, i < m → m ≤ ops.size → cont S R (addL L i) m k = ((R i).hm[k]?).getD .dead := by
      intro m
      induction m with
      | zero => intro h _; omega
      | succ m ih =>
        intro h hm
        simp only [cont]
        rcases Nat.lt_or_ge i m with h' | h'
        · have hno : (addL L i m && wr S R m k) = false := by
            rw [show addL L i m = L m from by simp [addL]; omega]
            cases hwm : wr S R m k with
            | false => simp
            | true =>
              cases hLm : L m with
              | false => rfl
              | true =>
                have := hcl m (by omega) hLm i (apart_new tr h' (by omega) (wr_run tr hw) hwm (wr_tch tr hw))
                rw [hL] at this; cases this
          rw [hno]
          simp only [Bool.false_eq_true, if_false]
          exact ih h' (by omega)
        · have : m = i := by omega
          subst this
          rw [hw, show addL L m m = true from by simp [addL]]
          simp
    exact this _ hi (Nat.le_refl _)
end
end Go.Idl
