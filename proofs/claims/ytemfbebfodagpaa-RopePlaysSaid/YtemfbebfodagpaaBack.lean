/- Part of a proof that the laws of this seat return true: a machine over plain data (Idl) that is sound for the given model, and its runs. Conditions: none. -/
import Derived.Test.YtemfbebfodagpaaCall
set_option linter.all false
set_option linter.unusedSectionVars false
namespace Go.Idl
open Go

theorem idx_mem {ks : List Nat} {k : Nat} (h : k ∈ ks) : ∃ j, idx ks k = some j := by
  induction ks with
  | nil => simp at h
  | cons x ks ih =>
    simp only [idx]
    split
    · exact ⟨_, rfl⟩
    · rename_i hx
      rcases List.mem_cons.1 h with rfl | h
      · exact absurd (Nat.beq_refl _) hx
      · obtain ⟨j, hj⟩ := ih h
        rw [hj]; exact ⟨_, rfl⟩
theorem idx_none {ks : List Nat} {k : Nat} (h : idx ks k = none) : k ∉ ks := by
  intro hm
  obtain ⟨j, hj⟩ := idx_mem hm
  rw [hj] at h; cases h
theorem setAll_len : ∀ (ks : List Nat) (os : List Ob) (h : Heap), (setAll h ks os).length = h.length := by
  intro ks
  induction ks with
  | nil => intro os h; simp [setAll]
  | cons k ks ih =>
    intro os h
    cases os with
    | nil => simp [setAll]
    | cons o os => rw [setAll, ih]; simp
theorem setAll_get : ∀ (ks : List Nat) (os : List Ob) (h : Heap) (k : Nat), ks.Nodup → ks.length ≤ os.length → k < h.length →
    (setAll h ks os)[k]? = match idx ks k with | some j => os[j]? | none => h[k]? := by
  intro ks
  induction ks with
  | nil => intro os h k _ _ _; simp [setAll, idx]
  | cons k0 ks ih =>
    intro os h k hn hl hk
    cases os with
    | nil => simp at hl
    | cons o os =>
      rw [setAll, ih os (h.set k0 o) k (List.nodup_cons.1 hn).2 (by simpa using hl) (by simpa using hk)]
      simp only [idx]
      cases hi : idx ks k with
      | some j =>
        have : k0 ≠ k := by
          rintro rfl
          exact (List.nodup_cons.1 hn).1 (List.mem_of_getElem? (idx_some hi))
        have hb : Nat.beq k0 k = false := by
          cases hb : Nat.beq k0 k with
          | true => exact absurd (Nat.eq_of_beq_eq_true hb) this
          | false => rfl
        simp [hb]
      | none =>
        by_cases h0 : k0 = k
        · subst h0
          simp [hk]
        · have hb : Nat.beq k0 k = false := by
            cases hb : Nat.beq k0 k with
            | true => exact absurd (Nat.eq_of_beq_eq_true hb) h0
            | false => rfl
          simp [hb, List.getElem?_set_ne h0]

section
variable {σ σc : Sg} {H H' : Im} {h hh : Heap} {w w' : World} {ks : List Nat}

def backσ (σ σc : Sg) (n : Nat) (ks : List Nat) : Sg := fun k => if k < n then (match idx ks k with | some j => σc j | none => σ k) else σc (ks.length + (k - n))
def backF (n : Nat) (ks : List Nat) : Nat → Option Nat := fun j => if j < ks.length then ks[j]? else some (n + (j - ks.length))
def backH (h hh : Heap) (ks : List Nat) : Heap := setAll h ks ((hh.map (Ob.ren (backF h.length ks))).take ks.length) ++ (hh.map (Ob.ren (backF h.length ks))).drop ks.length

theorem backF_ok (hn : ks.Nodup) (hlt : ∀ k ∈ ks, k < h.length) : ∀ j k u, backF h.length ks j = some k → σc j = some u → backσ σ σc h.length ks k = some u := by
  intro j k u e hu
  unfold backF at e
  unfold backσ
  split at e
  · rename_i hj
    have hk := hlt k (List.mem_of_getElem? e)
    rw [if_pos hk, idx_of hn e]
    exact hu
  · rename_i hj
    cases e
    rw [if_neg (by omega), show ks.length + (h.length + (j - ks.length) - h.length) = j from by omega]
    exact hu

/-- A call, seen from the caller. -/
theorem call_back (r : RelM σ H h w) (hn : ks.Nodup) (hlt : ∀ k ∈ ks, k < h.length) (p : Post (subσ σ ks) H (sub h ks) w σc H' hh w') :
    Post σ H h w (backσ σ σc h.length ks) H' (backH h hh ks) w' := by
  have hm : ks.length ≤ hh.length := by have := p.len; rwa [sub_len] at this
  have hF := backF_ok (σ := σ) (σc := σc) (h := h) hn hlt
  -- where an object lies
  have posl : ∀ k j, idx ks k = some j → j < ks.length ∧ k < h.length := by
    intro k j e
    have := idx_some e
    exact ⟨ltl_of_some this, hlt k (List.mem_of_getElem? this)⟩
  have hlen : (backH h hh ks).length = h.length + (hh.length - ks.length) := by simp [backH, setAll_len]
  have cases3 : ∀ (k : Nat) (o : Ob), (backH h hh ks)[k]? = some o →
      (∃ j o', hh[j]? = some o' ∧ o = o'.ren (backF h.length ks) ∧ backσ σ σc h.length ks k = σc j ∧ (∀ k2, backσ σ σc h.length ks k2 = backσ σ σc h.length ks k → True) ∧
        ((k < h.length ∧ idx ks k = some j) ∨ (h.length ≤ k ∧ j = ks.length + (k - h.length)))) ∨
      (k < h.length ∧ idx ks k = none ∧ h[k]? = some o ∧ backσ σ σc h.length ks k = σ k) := by
    intro k o e
    by_cases hk : k < h.length
    · unfold backH at e
      rw [List.getElem?_append_left (by rw [setAll_len]; exact hk), setAll_get ks _ h k hn (by simp; omega) hk] at e
      cases hi : idx ks k with
      | some j =>
        rw [hi] at e
        simp only at e
        have hj := posl k j hi
        rw [List.getElem?_take_of_lt hj.1, List.getElem?_map] at e
        cases ho : hh[j]? with
        | none => rw [ho] at e; cases e
        | some o' =>
          rw [ho] at e
          simp only [Option.map_some, Option.some.injEq] at e
          exact .inl ⟨j, o', ho, e.symm, by simp [backσ, hk, hi], fun _ _ => trivial, .inl ⟨hk, rfl⟩⟩
      | none =>
        rw [hi] at e
        exact .inr ⟨hk, rfl, e, by simp [backσ, hk, hi]⟩
    · unfold backH at e
      rw [List.getElem?_append_right (by rw [setAll_len]; omega), setAll_len, List.getElem?_drop, List.getElem?_map] at e
      cases ho : hh[ks.length + (k - h.length)]? with
      | none => rw [ho] at e; cases e
      | some o' =>
        rw [ho] at e
        simp only [Option.map_some, Option.some.injEq] at e
        exact .inl ⟨_, o', ho, e.symm, by simp [backσ, hk], fun _ _ => trivial, .inr ⟨by omega, rfl⟩⟩
  have hext : Sle σ (backσ σ σc h.length ks) := by
    intro k v hv
    have hk : k < h.length := by
      rcases Nat.lt_or_ge k h.length with h1 | h1
      · exact h1
      · rw [r.dom k h1] at hv; cases hv
    unfold backσ
    rw [if_pos hk]
    split
    · rename_i j hj; exact p.ext j v (subσ_idx k j v hj hv)
    · exact hv
  have nosub : ∀ (k : Nat) (o : Ob) (v : Value) (b : Nat), idx ks k = none → h[k]? = some o → o.live = true → σ k = some v → blk v = some b → ¬ Own (subσ σ ks) (sub h ks) b := by
    intro k o v b hi h1 h2 h3 h4 ho
    obtain ⟨k', o', v', hm', g1, g2, g3, g4⟩ := sub_own ho
    have := r.sep k k' o o' v v' b h1 g1 h2 g2 h3 g3 h4 g4
    subst this
    exact idx_none hi hm'
  have toOwn : ∀ b, Own (subσ σ ks) (sub h ks) b → Own σ h b := by
    intro b ho
    obtain ⟨k', o', v', _, g1, g2, g3, g4⟩ := sub_own ho
    exact ⟨k', o', v', g1, g2, g3, g4⟩
  have hsame : ∀ (k : Nat) (o : Ob) (v : Value) (b : Nat), idx ks k = none → h[k]? = some o → o.live = true → σ k = some v → blk v = some b → w'.heap[b]? = w.heap[b]? ∧ ∀ i, H' b i = H b i := by
    intro k o v b hi h1 h2 h3 h4
    have hno := nosub k o v b hi h1 h2 h3 h4
    have hb := (r.obj k o v h1 h3).lt h2 h4
    refine ⟨p.frame b hb hno, fun i => ?_⟩
    cases h' : H' b i with
    | some x =>
      rcases p.grow b i x h' with h5 | h5 | h5
      · exact h5.symm
      · exact absurd h5 hno
      · omega
    | none =>
      cases h'' : H b i with
      | none => rfl
      | some x => rw [p.hle b i x h''] at h'; cases h'
  have hold : ∀ k, k < h.length → backσ σ σc h.length ks k = σ k := by
    intro k hk
    unfold backσ
    rw [if_pos hk]
    split
    · rename_i j hj
      have hj' := posl k j hj
      rw [p.old j (by rw [sub_len]; exact hj'.1)]
      simp [subσ, idx_some hj]
    · rfl
  refine ⟨hext, hold, p.hle, ⟨?_, ?_, ?_, p.rel.imm, ?_⟩, by rw [hlen]; omega, p.same, p.size, fun b hb hno => p.frame b hb (fun ho => hno (toOwn b ho)), ?_, ?_⟩
  · intro k o v h1 h2
    rcases cases3 k o h1 with ⟨j, o', h3, rfl, h4, _, _⟩ | ⟨hk, hi, h3, h4⟩
    · rw [h4] at h2; exact (p.rel.obj j o' v h3 h2).ren hF
    · rw [h4] at h2
      by_cases hl : o.live = true
      · exact ((r.obj k o v h3 h2).mono hext p.hle).congr (fun b hb => (hsame k o v b hi h3 hl h2 hb).1)
      · cases o <;> simp [Ob.live] at hl; trivial
  · intro k o v b h1 hl h2 hb
    rcases cases3 k o h1 with ⟨j, o', h3, rfl, h4, _, _⟩ | ⟨hk, hi, h3, h4⟩
    · rw [h4] at h2; rw [Ob.ren_live] at hl; exact (p.rel.held j o' v b h3 hl h2 hb).ren
    · rw [h4] at h2
      have := hsame k o v b hi h3 hl h2 hb
      exact ((r.held k o v b h3 hl h2 hb).congr this.1).himm this.2
  · intro k hk
    rw [hlen] at hk
    unfold backσ
    rw [if_neg (by omega)]
    exact p.rel.dom _ (by omega)
  · intro k k' o o' v v' b h1 h2 l1 l2 s1 s2 b1 b2
    have mixed : ∀ (k k' : Nat) (v v' : Value) (o' : Ob) (j : Nat) (oj : Ob), hh[j]? = some oj → oj.live = true → σc j = some v → blk v = some b → idx ks k' = none → h[k']? = some o' → o'.live = true → σ k' = some v' → blk v' = some b → False := by
      intro k k' v v' o' j oj g1 g2 g3 g4 e1 e2 e3 e4 e5
      rcases p.fresh b ⟨j, oj, v, g1, g2, g3, g4⟩ with h5 | h5
      · exact nosub k' o' v' b e1 e2 e3 e4 e5 h5
      · have := (r.obj k' o' v' e2 e4).lt e3 e5; omega
    rcases cases3 k o h1 with ⟨j, p1, h3, rfl, h4, _, hpos⟩ | ⟨hk, hi, h3, h4⟩ <;> rcases cases3 k' o' h2 with ⟨j', p2, h5, rfl, h6, _, hpos'⟩ | ⟨hk', hi', h5, h6⟩
    · rw [h4] at s1; rw [h6] at s2
      rw [Ob.ren_live] at l1 l2
      have := p.rel.sep j j' p1 p2 v v' b h3 h5 l1 l2 s1 s2 b1 b2
      subst this
      rcases hpos with ⟨q1, q2⟩ | ⟨q1, q2⟩ <;> rcases hpos' with ⟨q3, q4⟩ | ⟨q3, q4⟩
      · have e1 := idx_some q2
        have e2 := idx_some q4
        rw [e1] at e2; cases e2; rfl
      · have := (posl k j q2).1; omega
      · have := (posl k' j q4).1; omega
      · omega
    · rw [h4] at s1; rw [h6] at s2; rw [Ob.ren_live] at l1
      exact (mixed k k' v v' o' j p1 h3 l1 s1 b1 hi' h5 l2 s2 b2).elim
    · rw [h4] at s1; rw [h6] at s2; rw [Ob.ren_live] at l2
      exact (mixed k' k v' v o j' p2 h5 l2 s2 b2 hi h3 l1 s1 b1).elim
    · rw [h4] at s1; rw [h6] at s2
      exact r.sep k k' o o' v v' b h3 h5 l1 l2 s1 s2 b1 b2
  · intro b ho
    obtain ⟨k, o, v, h1, h2, h3, h4⟩ := ho
    rcases cases3 k o h1 with ⟨j, p1, h5, rfl, h6, _, _⟩ | ⟨hk, hi, h5, h6⟩
    · rw [h6] at h3; rw [Ob.ren_live] at h2
      exact (p.fresh b ⟨j, p1, v, h5, h2, h3, h4⟩).imp (toOwn b) id
    · rw [h6] at h3; exact .inl ⟨k, o, v, h5, h2, h3, h4⟩
  · intro b i u hu
    rcases p.grow b i u hu with h | h | h
    · exact .inl h
    · exact .inr (.inl (toOwn b h))
    · exact .inr (.inr h)
end
end Go.Idl
