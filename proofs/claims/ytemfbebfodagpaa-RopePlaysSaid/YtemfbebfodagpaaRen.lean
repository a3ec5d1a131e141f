/- Part of a proof that the laws of this seat return true: a machine over plain data (Idl) that is sound for the given model, and its runs. Conditions: none. -/
import Derived.Test.YtemfbebfodagpaaEvalOp
set_option linter.all false
set_option linter.unusedSectionVars false
namespace Go.Idl
open Go

theorem idx_some : ∀ {ks : List Nat} {k j : Nat}, idx ks k = some j → ks[j]? = some k := by
  intro ks
  induction ks with
  | nil => intro k j e; simp [idx] at e
  | cons x ks ih =>
    intro k j e
    simp only [idx] at e
    split at e
    · rename_i h; cases e; simp [Nat.eq_of_beq_eq_true h]
    · split at e
      · rename_i i hi; cases e; simpa using ih hi
      · cases e
theorem idx_of : ∀ {ks : List Nat} {k j : Nat}, ks.Nodup → ks[j]? = some k → idx ks k = some j := by
  intro ks
  induction ks with
  | nil => intro k j _ e; simp at e
  | cons x ks ih =>
    intro k j hn e
    simp only [idx]
    cases j with
    | zero => simp at e; subst e; simp
    | succ j =>
      simp at e
      have hx : x ≠ k := by
        rintro rfl
        exact (List.nodup_cons.1 hn).1 (List.mem_of_getElem? e)
      have hb : Nat.beq x k = false := by
        cases hb : Nat.beq x k with
        | true => exact absurd (Nat.eq_of_beq_eq_true hb) hx
        | false => rfl
      rw [hb, ih (List.nodup_cons.1 hn).2 e]
      simp
theorem memN_iff : ∀ {l : List Nat} {k : Nat}, memN l k = true ↔ k ∈ l := by
  intro l
  induction l with
  | nil => intro k; simp [memN]
  | cons x l ih =>
    intro k
    simp only [memN]
    split
    · rename_i h; simp [Nat.eq_of_beq_eq_true h]
    · rename_i h
      rw [ih]
      simp only [List.mem_cons]
      constructor
      · exact .inr
      · rintro (rfl | h')
        · exact absurd (Nat.beq_refl k) h
        · exact h'
theorem reach_ok : ∀ (n : Nat) (h : Heap) (acc todo : List Nat), acc.Nodup → (reach n h acc todo).Nodup ∧ (∃ l, reach n h acc todo = acc ++ l) ∧ ((∀ k ∈ acc, k < h.length) → ∀ k ∈ reach n h acc todo, k < h.length) := by
  intro n
  induction n with
  | zero => intro h acc todo hn; exact ⟨hn, ⟨[], by simp [reach]⟩, fun x => x⟩
  | succ n ih =>
    intro h acc todo hn
    cases todo with
    | nil => exact ⟨by simpa [reach] using hn, ⟨[], by simp [reach]⟩, fun x => by simpa [reach] using x⟩
    | cons k todo =>
      simp only [reach]
      split
      · exact ih h acc todo hn
      · rename_i hk
        have hk' : k ∉ acc := fun x => hk (memN_iff.2 x)
        split
        · rename_i o ho
          have hlt := ltl_of_some ho
          obtain ⟨h1, ⟨l, h2⟩, h3⟩ := ih h (acc ++ [k]) (todo ++ o.refs) (by
            rw [List.nodup_append]
            refine ⟨hn, by simp, ?_⟩
            intro a ha b hb
            simp at hb
            subst hb
            rintro rfl
            exact hk' ha)
          refine ⟨h1, ⟨k :: l, by rw [h2]; simp⟩, fun x => h3 ?_⟩
          intro j hj
          rcases List.mem_append.1 hj with hj | hj
          · exact x j hj
          · simp at hj; omega
        · exact ih h acc todo hn

section
variable {σ σ' : Sg} {H : Im} {f : Nat → Option Nat} (hf : ∀ k k' u, f k = some k' → σ k = some u → σ' k' = some u)
include hf
theorem Caps.ren : ∀ {l l' : List (Nat × Nat)} {vs : List Value}, renCaps f l = some l' → Caps σ l vs → Caps σ' l' vs := by
  intro l
  induction l with
  | nil => intro l' vs e h; cases h; simp [renCaps] at e; subst e; exact .nil
  | cons x l ih =>
    intro l' vs e h
    obtain ⟨k, o⟩ := x
    cases h with
    | cons hx h =>
      simp only [renCaps] at e
      split at e
      · rename_i j r hj hr
        cases e
        obtain ⟨b, h1, h2⟩ := hx
        exact .cons ⟨b, hf _ _ _ hj h1, h2⟩ (ih hr h)
      · cases e
theorem Crel.ren {c : C} {v : Value} (h : Crel σ H c v) : Crel σ' H (c.ren f) v := by
  have hone := h.one
  cases c with
  | d x => exact h
  | dead => exact h
  | ptr k o =>
    simp only [C.ren]
    split
    · rename_i j hj; obtain ⟨b, h1, h2⟩ := h; exact ⟨b, hf _ _ _ hj h1, h2⟩
    · exact hone
  | eptr k s i o =>
    simp only [C.ren]
    split
    · rename_i j hj; obtain ⟨b, l, c, h1, h2⟩ := h; exact ⟨b, l, c, hf _ _ _ hj h1, h2⟩
    · exact hone
  | edata k =>
    simp only [C.ren]
    split
    · rename_i j hj; obtain ⟨s, p, h1, h2⟩ := h; exact ⟨s, p, hf _ _ _ hj h1, h2⟩
    · exact hone
  | arr k =>
    simp only [C.ren]
    split
    · rename_i j hj; exact ⟨hf _ _ _ hj h.1, h.2⟩
    · exact hone
  | map k =>
    simp only [C.ren]
    split
    · rename_i j hj; obtain ⟨b, h1, h2⟩ := h; exact ⟨b, hf _ _ _ hj h1, h2⟩
    · exact hone
  | clo g l =>
    simp only [C.ren]
    split
    · rename_i l' hl; obtain ⟨vs, h1, h2⟩ := h; exact ⟨vs, h1, Caps.ren hf hl h2⟩
    · exact hone
omit hf in
theorem f2_map {α β γ : Type} {R : α → β → Prop} {S : γ → β → Prop} {g : α → γ} (hg : ∀ a b, R a b → S (g a) b) {l : List α} {m : List β} (h : F2 R l m) : F2 S (l.map g) m := by
  induction h with
  | nil => exact .nil
  | cons a _ ih => exact .cons (hg _ _ a) ih
theorem Crels.ren {cs : List C} {vs : List Value} (h : Crels σ H cs vs) : Crels σ' H (cs.map (C.ren f)) vs := f2_map (g := C.ren f) (fun _ _ h => Crel.ren hf h) h
theorem Xrel.ren {x : Bool × List C} {v : Value} (h : Xrel σ H x v) : Xrel σ' H (x.1, x.2.map (C.ren f)) v := by
  unfold Xrel at *
  split
  · rename_i hx; simp only at hx; rw [if_pos hx] at h; obtain ⟨vs, e, h⟩ := h; exact ⟨vs, e, Crels.ren hf h⟩
  · rename_i hx; simp only at hx; rw [if_neg hx] at h; obtain ⟨c, e, h⟩ := h; exact ⟨c.ren f, by simp [e], h.ren hf⟩
theorem Vrel.ren {x : DV} {v : Value} (h : Vrel σ H x v) : Vrel σ' H (x.ren f) v := by
  cases x with
  | val a cs => exact Xrel.ren hf (x := (a, cs)) h
  | tup vs => obtain ⟨l, e, h⟩ := h; exact ⟨l, e, f2_map (g := fun v => (v.1, v.2.map (C.ren f))) (fun _ _ h => Xrel.ren hf h) h⟩
theorem Orel.ren {o : Ob} {v : Value} {w : World} (h : Orel σ H o v w) : Orel σ' H (o.ren f) v w := by
  cases o with
  | dead => trivial
  | box fz cs => obtain ⟨b, c, T, e, hb, hc⟩ := h; exact ⟨b, c, T, e, hb, Crels.ren hf hc⟩
  | arr fz st t sz es => exact h
  | map ka va es => exact h
omit hf in
theorem Held.ren {o : Ob} {b : Nat} {w : World} (h : Held H o b w) : Held H (o.ren f) b w := by
  cases o with
  | box fz cs =>
    cases fz with
    | false => exact h
    | true => intro i hi; exact h i (by simpa using hi)
  | _ => exact h
omit hf in
theorem Ob.ren_live (o : Ob) : (o.ren f).live = o.live := by cases o <;> rfl
end

def subσ (σ : Sg) (ks : List Nat) : Sg := fun j => match ks[j]? with | some k => σ k | none => none
theorem subσ_some {σ : Sg} {ks : List Nat} {j : Nat} {v : Value} (h : subσ σ ks j = some v) : ∃ k, ks[j]? = some k ∧ σ k = some v := by
  unfold subσ at h
  split at h
  · rename_i k hk; exact ⟨k, hk, h⟩
  · cases h
theorem subσ_idx {σ : Sg} {ks : List Nat} : ∀ k k' u, idx ks k = some k' → σ k = some u → subσ σ ks k' = some u := by
  intro k k' u h1 h2
  simp [subσ, idx_some h1, h2]
theorem sub_get {h : Heap} {ks : List Nat} {j : Nat} {o : Ob} (e : (sub h ks)[j]? = some o) : ∃ k, ks[j]? = some k ∧ ((∃ o', h[k]? = some o' ∧ o = o'.ren (idx ks)) ∨ o = .dead) := by
  unfold sub at e
  rw [List.getElem?_map] at e
  cases hk : ks[j]? with
  | none => rw [hk] at e; cases e
  | some k =>
    rw [hk] at e
    simp only [Option.map_some, Option.some.injEq] at e
    refine ⟨k, rfl, ?_⟩
    split at e
    · rename_i o' ho; exact .inl ⟨o', ho, e.symm⟩
    · exact .inr e.symm
theorem sub_len (h : Heap) (ks : List Nat) : (sub h ks).length = ks.length := by simp [sub]

theorem sub_own {σ : Sg} {h : Heap} {ks : List Nat} {b : Nat} (ho : Own (subσ σ ks) (sub h ks) b) : ∃ k o v, k ∈ ks ∧ h[k]? = some o ∧ o.live = true ∧ σ k = some v ∧ blk v = some b := by
  obtain ⟨j, o, v, h1, h2, h3, h4⟩ := ho
  obtain ⟨k, hk, h5⟩ := sub_get h1
  obtain ⟨k', hk', h6⟩ := subσ_some h3
  rw [hk] at hk'; cases hk'
  rcases h5 with ⟨o', h7, rfl⟩ | rfl
  · rw [Ob.ren_live] at h2
    exact ⟨k, o', v, List.mem_of_getElem? hk, h7, h2, h6, h4⟩
  · simp [Ob.live] at h2

theorem RelM.sub {σ : Sg} {H : Im} {h : Heap} {w : World} (r : RelM σ H h w) {ks : List Nat} (hn : ks.Nodup) : RelM (subσ σ ks) H (sub h ks) w where
  obj := fun j o v h1 h2 => by
    obtain ⟨k, hk, h3⟩ := sub_get h1
    obtain ⟨k', hk', h4⟩ := subσ_some h2
    rw [hk] at hk'; cases hk'
    rcases h3 with ⟨o', h5, rfl⟩ | rfl
    · exact (r.obj k o' v h5 h4).ren (subσ_idx)
    · trivial
  held := fun j o v b h1 h2 h3 h4 => by
    obtain ⟨k, hk, h5⟩ := sub_get h1
    obtain ⟨k', hk', h6⟩ := subσ_some h3
    rw [hk] at hk'; cases hk'
    rcases h5 with ⟨o', h7, rfl⟩ | rfl
    · rw [Ob.ren_live] at h2; exact (r.held k o' v b h7 h2 h6 h4).ren
    · trivial
  dom := fun k hk => by
    rw [sub_len] at hk
    simp [subσ, List.getElem?_eq_none hk]
  imm := r.imm
  sep := fun j j' o o' v v' b h1 h2 l1 l2 s1 s2 b1 b2 => by
    obtain ⟨k, hk, h5⟩ := sub_get h1
    obtain ⟨k1, hk1, h6⟩ := subσ_some s1
    rw [hk] at hk1; cases hk1
    obtain ⟨k', hk', h7⟩ := sub_get h2
    obtain ⟨k2, hk2, h8⟩ := subσ_some s2
    rw [hk'] at hk2; cases hk2
    rcases h5 with ⟨p, hp, rfl⟩ | rfl
    · rcases h7 with ⟨p', hp', rfl⟩ | rfl
      · rw [Ob.ren_live] at l1 l2
        have := r.sep k k' p p' v v' b hp hp' l1 l2 h6 h8 b1 b2
        subst this
        have e1 := idx_of hn hk
        have e2 := idx_of hn hk'
        rw [e1] at e2; cases e2; rfl
      · simp [Ob.live] at l2
    · simp [Ob.live] at l1

/-- What is not needed is let go. -/
theorem Post.gc {σ0 σ : Sg} {H0 H : Im} {h0 h : Heap} {w0 w : World} (dom0 : ∀ k, h0.length ≤ k → σ0 k = none) (p : Post σ0 H0 h0 w0 σ H h w) {ks l : List Nat} (hn : ks.Nodup) (hk : ks = List.range h0.length ++ l) :
    Post σ0 H0 h0 w0 (subσ σ ks) H (sub h ks) w where
  ext := fun k v hv => by
    have hlt : k < h0.length := by
      rcases Nat.lt_or_ge k h0.length with h | h
      · exact h
      · rw [dom0 k h] at hv; cases hv
    have : ks[k]? = some k := by
      subst hk
      rw [List.getElem?_append_left (by simpa using hlt)]
      simp [hlt]
    simp [subσ, this, p.ext k v hv]
  old := fun k hlt => by
    have : ks[k]? = some k := by
      subst hk
      rw [List.getElem?_append_left (by simpa using hlt)]
      simp [hlt]
    simp [subσ, this, p.old k hlt]
  hle := p.hle
  rel := p.rel.sub hn
  len := by rw [sub_len, hk]; simp
  same := p.same
  size := p.size
  frame := p.frame
  fresh := fun b ho => by
    obtain ⟨k, o, v, _, h1, h2, h3, h4⟩ := sub_own ho
    exact p.fresh b ⟨k, o, v, h1, h2, h3, h4⟩
  grow := p.grow
end Go.Idl
