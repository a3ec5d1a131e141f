/- Part of a proof that the laws of this seat return true: a machine over plain data (Idl) that is sound for the given model, and its runs. Conditions: none. -/
import Derived.Test.YtemfbebfodagpaaDraw4
set_option linter.all false
set_option linter.unusedSectionVars false
namespace Go.Idl
open Go

theorem filter_lt {p q : Nat → Bool} (hpq : ∀ x, q x = true → p x = true) : ∀ {l : List Nat} {x : Nat}, x ∈ l → p x = true → q x = false → (l.filter q).length < (l.filter p).length := by
  have hle : ∀ l : List Nat, (l.filter q).length ≤ (l.filter p).length := by
    intro l
    induction l with
    | nil => simp
    | cons y l ih =>
      simp only [List.filter_cons]
      cases hq : q y with
      | true => rw [hpq y hq]; simpa using ih
      | false => cases p y <;> simp <;> omega
  intro l
  induction l with
  | nil => intro x hx; simp at hx
  | cons y l ih =>
    intro x hx hp hq
    simp only [List.filter_cons]
    rcases List.mem_cons.1 hx with rfl | hx
    · rw [hp, hq]; have := hle l; simp; omega
    · have := ih hx hp hq
      cases hqy : q y with
      | true => rw [hpq y hqy]; simpa using this
      | false => cases p y <;> simp <;> omega

theorem getD_true_set {listed : Array Bool} {i : Nat} (hi : i < listed.size) : (fun j => (listed.setIfInBounds i true).getD j true) = addL (fun j => listed.getD j true) i := by
  funext j
  unfold addL
  by_cases h : j = i
  · subst h; simp [Array.getD_eq_getD_getElem?, hi]
  · rw [if_neg h]
    simp [Array.getD_eq_getD_getElem?, Array.getElem?_setIfInBounds_ne (fun e => h e.symm)]

section
variable {P : Program} {T : Tab} (hT : RunOk P T) (hR : ReadOk T) {call : CallF} (hc : CallOk P call) {σ0 : Sg} {H0 : Im} {h0 : Heap} {w0 : World} {nt : Nat}
  {mv : Bool} {ops : Array Oper} (hreg : RegOk ops)
include hT hR hc hreg

theorem any_ok {S : Nat → St} {R : Nat → Rec} (tr : Trc T call mv nt ops S R) (hm0 : h0.length ≤ (S 0).heap.length) {Q : Exit → Act → World → Prop}
    (hQ : ∀ a w, Inv σ0 H0 h0 w0 nt ops S R (fun _ => true) a w → Q .normal a w) :
    ∀ (fuel : Nat) (listed : Array Bool) (a : Act) (w : World), listed.size = ops.size → Inv σ0 H0 h0 w0 nt ops S R (fun i => listed.getD i true) a w → Closed ops (fun i => listed.getD i true) →
      ((List.range ops.size).filter fun i => !listed.getD i true).length ≤ fuel → wpAny P .any ops Q fuel listed a w := by
  have done : ∀ (listed : Array Bool), listed.size = ops.size → Region.ready .any ops listed = [] → (fun i => listed.getD i true) = fun _ => true := by
    intro listed hs hrd
    funext i
    induction i using Nat.strongRecOn with
    | _ i ih =>
      cases hi : listed.getD i true with
      | true => rfl
      | false =>
        exfalso
        have hlt : i < ops.size := by
          rcases Nat.lt_or_ge i listed.size with h | h
          · omega
          · rw [Array.getD_eq_getD_getElem?, Array.getElem?_eq_none h] at hi; simp at hi
        have : i ∈ Region.ready .any ops listed := mem_ready.2 ⟨hi, ops[i], by simp [hlt], fun e he hb => by
          have hlt' := hreg.ord i ops[i] (by simp [hlt]) e he hb
          have := ih e.on hlt'
          rw [Array.getD_eq_getD_getElem?, Array.getElem?_eq_getElem (by omega)] at this ⊢
          simpa using this⟩
        rw [hrd] at this
        simp at this
  intro fuel
  induction fuel with
  | zero =>
    intro listed a w hs hinv _ hf
    rw [wpAny.eq_1]
    have hall : ∀ i ∈ List.range ops.size, ¬ (!listed.getD i true) = true := by
      have := List.eq_nil_of_length_eq_zero (Nat.le_zero.1 hf)
      rw [List.filter_eq_nil_iff] at this
      exact this
    have hrd : Region.ready .any ops listed = [] := by
      rw [List.eq_nil_iff_forall_not_mem]
      intro i hi
      obtain ⟨h1, o, h2, _⟩ := mem_ready.1 hi
      exact hall i (by simpa using lt_of_some h2) (by rw [h1]; rfl)
    refine ⟨hrd, hQ _ _ ?_⟩
    rw [← done listed hs hrd]; exact hinv
  | succ fuel ih =>
    intro listed a w hs hinv hcl hf
    rw [wpAny.eq_2]
    refine ⟨fun hrd => hQ _ _ (by rw [← done listed hs hrd]; exact hinv), fun i hi => ?_⟩
    obtain ⟨h1, o, h2, h3⟩ := mem_ready.1 hi
    have hlt := lt_of_some h2
    have hpre : ∀ j, (bef ops i).testBit j = true → listed.getD j true = true := by
      intro j hj
      obtain ⟨e, he, hb, h4⟩ := bef_ok h2 hj
      have hl := h3 e he hb
      have hl' : listed.getD e.on true = true := by
        rw [Array.getD_eq_getD_getElem?] at hl ⊢
        cases hx : listed[e.on]? with
        | none => rfl
        | some b => rw [hx] at hl; simpa using hl
      rcases h4 with rfl | h4
      · exact hl'
      · have hes : e.on < ops.size := Nat.lt_trans (hreg.ord i o h2 e he hb) hlt
        exact hcl e.on hes hl' j h4
    have hadd := getD_true_set (listed := listed) (i := i) (by omega)
    refine inv_step hT hR hc hreg tr hm0 hcl h2 h1 hpre hinv fun a' w' hinv' => ?_
    refine ih (listed.setIfInBounds i true) a' w' (by simpa using hs) (by rw [hadd]; exact hinv') ?_ ?_
    · rw [hadd]
      intro k hk hLk j hj
      unfold addL at hLk ⊢
      split
      · rfl
      · split at hLk
        · rename_i hki; subst hki; exact hpre j hj
        · exact hcl k hk hLk j hj
    · have := filter_lt (p := fun i => !listed.getD i true) (q := fun j => !(listed.setIfInBounds i true).getD j true) (by
        intro x hx
        have hx' : (!(addL (fun j => listed.getD j true) i x)) = true := by rw [← hadd]; exact hx
        unfold addL at hx'
        split at hx'
        · simp at hx'
        · exact hx') (l := List.range ops.size) (x := i) (by simpa using hlt) (by show (!listed.getD i true) = true; rw [h1]; rfl) (by
        have : addL (fun j => listed.getD j true) i i = true := by simp [addL]
        rw [← hadd] at this
        have this' : (listed.setIfInBounds i true).getD i true = true := this
        show (!(listed.setIfInBounds i true).getD i true) = false
        rw [this']; rfl)
      omega

theorem runDraw_ok (hmix : P.follows Departure.mixedOrders = true) {id : Nat} {s s' : St} {a : Act} {w : World} {Q : Exit → Act → World → Prop}
    (e : runDraw T call mv nt ops (Region.before ops).toList 0 ops.toList [] s = some s') (hs : StOk σ0 H0 h0 w0 nt s a w) (hQ : ∀ a' w', StOk σ0 H0 h0 w0 nt s' a' w' → Q .normal a' w') :
    Code.wp P (.region id ops true) Q a w := by
  obtain ⟨S, R, tr, hS0, hSn⟩ := Trc.of e
  obtain ⟨σ, H, p, henv, hd, hn⟩ := hs
  refine wp_region_any hmix ?_
  have hm0 : h0.length ≤ (S 0).heap.length := by rw [hS0]; exact p.len
  have hlen : (S 0).heap.length ≤ (S ops.size).heap.length := tr.len (by omega) (Nat.le_refl _)
  have hL : ∀ i, i < ops.size → (Array.replicate ops.size false).getD i true = false := by
    intro i hi
    simp [Array.getD_eq_getD_getElem?, hi]
  refine any_ok hT hR hc hreg tr hm0 (σ0 := σ0) (H0 := H0) (w0 := w0) ?_ ops.size _ a _ (by simp) ?_ ?_ ?_
  · intro a' w' hinv
    obtain ⟨σ', H', p', _, henv', _, hd', hn'⟩ := hinv
    refine hQ a' w' ⟨σ', H', ?_, fun t dv h => henv' t dv (fun _ _ _ _ => rfl) (by rw [hSn]; exact h), hd', hn'⟩
    have : Hc S R ops.size (fun _ => true) = s'.heap := by
      rw [← hSn]
      refine List.ext_getElem? fun k => ?_
      by_cases hk : k < (S ops.size).heap.length
      · rw [tr.text ops.size (Nat.le_refl _) k hk]
        exact Hc_get.2 ⟨hk, rfl⟩
      · rw [List.getElem?_eq_none (by rw [Hc_len]; omega), List.getElem?_eq_none (by omega)]
    rw [← this]; exact p'
  · have hcont : ∀ m, m ≤ ops.size → ∀ k, cont S R (fun i => (Array.replicate ops.size false).getD i true) m k = ((S 0).heap[k]?).getD .dead := by
      intro m
      induction m with
      | zero => intro _ k; rfl
      | succ m ih => intro hm k; simp only [cont, hL m (by omega), Bool.false_and, Bool.false_eq_true, if_false]; exact ih (by omega) k
    have hcase : ∀ (k : Nat) (o : Ob), (Hc S R ops.size (fun i => (Array.replicate ops.size false).getD i true))[k]? = some o → o.live = true → s.heap[k]? = some o := by
      intro k o hk hl
      obtain ⟨_, h2⟩ := Hc_get.1 hk
      rw [hcont _ (Nat.le_refl _), hS0] at h2
      cases hx : s.heap[k]? with
      | none => rw [hx] at h2; simp at h2; subst h2; simp [Ob.live] at hl
      | some o' => rw [hx] at h2; simp at h2; rw [h2]
    have p1 : Post σ0 H0 h0 w0 σ H s.heap ⟨w.heap, w.tape, w.drawn + 1, w.os, w.output⟩ := p.trans (Post.step p.rel ⟨rfl, rfl, rfl⟩ (Nat.le_refl _) (fun _ _ => rfl))
    refine ⟨σ, H, ⟨p1.ext, p1.old, p1.hle, ⟨?_, ?_, ?_, p1.rel.imm, ?_⟩, by rw [Hc_len]; omega, p1.same, p1.size, p1.frame, ?_, p1.grow⟩, ?_, ?_, fun t dv _ hdv => henv t dv (by rw [← hS0]; exact hdv), hd, hn⟩
    · intro k o v h1 h2
      by_cases hl : o.live = true
      · exact p1.rel.obj k o v (hcase k o h1 hl) h2
      · cases o <;> simp [Ob.live] at hl; trivial
    · intro k o v b h1 hl h2 hb
      exact p1.rel.held k o v b (hcase k o h1 hl) hl h2 hb
    · intro k hk
      rw [Hc_len] at hk
      refine p1.rel.dom k ?_
      rw [← hS0]; omega
    · intro k k' o o' v v' b h1 h2 l1 l2 v1 v2 b1 b2
      exact p1.rel.sep k k' o o' v v' b (hcase k o h1 l1) (hcase k' o' h2 l2) l1 l2 v1 v2 b1 b2
    · rintro b ⟨k, o, v, h1, h2, h3, h4⟩
      exact p1.fresh b ⟨k, o, v, hcase k o h1 h2, h2, h3, h4⟩
    · intro i k hi _ _ h1 _
      refine p1.rel.dom k ?_
      have := tr.len (i := 0) (j := i) (by omega) (by omega)
      rw [← hS0]; omega
    · intro t dv hall hdv
      refine henv t dv ?_
      rw [← hdv, ← hS0]
      refine (tr.envStay (i := 0) (by omega) (Nat.le_refl _) ?_).symm
      intro j o hj hdj
      have h1 : (Array.replicate ops.size false).getD j true = true := hall j o hj hdj
      rw [hL j (lt_of_some hj)] at h1
      cases h1
  · intro i hi hLi
    have h1 : (Array.replicate ops.size false).getD i true = true := hLi
    rw [hL i hi] at h1; cases h1
  · exact Nat.le_trans (List.length_filter_le _ _) (by simp)
end
end Go.Idl
