/- Part of a proof that the laws of this seat return true: a machine over plain data (Idl) that is sound for the given model, and its runs. Conditions: none. -/
import Derived.Test.YtemfbebfodagpaaDraw
set_option linter.all false
set_option linter.unusedSectionVars false
namespace Go.Idl
open Go

theorem looks_guard {ops : Array Oper} {o : Oper} {j : Nat} {want : Bool} {d : Nat} (hg : o.guard = some (j, want)) (hd : (ops[j]?.bind fun x => x.dst) = some d) : d ∈ Oper.looksAt ops o := by
  unfold Oper.looksAt
  rw [hg]
  simp [hd]
theorem looks_operand {ops : Array Oper} {o : Oper} {t : Nat} (h : o.op.operands.toList.any (fun y => match y with | .tmp u => Nat.beq u t | _ => false) = true) : t ∈ Oper.looksAt ops o := by
  unfold Oper.looksAt
  rw [List.any_eq_true] at h
  obtain ⟨y, hy, h⟩ := h
  refine List.mem_append_left _ (List.mem_filterMap.2 ⟨y, hy, ?_⟩)
  split at h
  · rename_i u; rw [Nat.eq_of_beq_eq_true h]
  · cases h
theorem wanted_ok' {σ : Sg} {H : Im} {ops : Array Oper} {env : Env} {a : Act} {o : Oper} (he : ∀ t ∈ Oper.looksAt ops o, ∀ dv, env.get t = some dv → Vrel σ H dv (a.tmps.getD t undef)) {b : Bool} (e : wantedI ops env o = some b) :
    Region.wanted o (yielded ops a.tmps) = b := by
  cases hg : o.guard with
  | none =>
    unfold wantedI at e
    rw [hg] at e
    cases e
    unfold Region.wanted
    rw [hg]
  | some g =>
    obtain ⟨j, want⟩ := g
    cases hd : (ops[j]?.bind fun x => x.dst) with
    | none =>
      unfold wantedI at e
      rw [hg] at e
      simp only [hd] at e
      cases e
      unfold Region.wanted
      rw [hg]
      simp [yielded, hd]
    | some d =>
      cases hx : env.get d with
      | none => unfold wantedI at e; rw [hg] at e; simp only [hd, hx] at e; cases e
      | some dv =>
        have h1 : wantedI ops [(d, dv)] o = some b := by
          unfold wantedI at e ⊢
          rw [hg] at e ⊢
          simp only [hd, hx] at e ⊢
          simpa [Env.get] using e
        refine wanted_ok (σ := σ) (H := H) (env := [(d, dv)]) ?_ h1
        intro t dv' ht
        simp only [Env.get] at ht
        split at ht
        · rename_i hk; cases ht; have := Nat.eq_of_beq_eq_true hk; subst this; exact he _ (looks_guard hg hd) _ hx
        · cases ht

/-! values that lead to nothing new -/
theorem Crel.narrow {σ σ' : Sg} {H : Im} {c : C} {v : Value} (hf : ∀ k ∈ c.refs, ∀ u, σ k = some u → σ' k = some u) (h : Crel σ H c v) : Crel σ' H c v := by
  cases c with
  | d x => exact h
  | ptr k o => obtain ⟨b, e, h⟩ := h; exact ⟨b, hf _ (by simp [C.refs]) _ e, h⟩
  | eptr k sz i o => obtain ⟨b, l, c, e, h⟩ := h; exact ⟨b, l, c, hf _ (by simp [C.refs]) _ e, h⟩
  | edata k => obtain ⟨s, p, e, h⟩ := h; exact ⟨s, p, hf _ (by simp [C.refs]) _ e, h⟩
  | arr k => exact ⟨hf _ (by simp [C.refs]) _ h.1, h.2⟩
  | map k => obtain ⟨b, e, h⟩ := h; exact ⟨b, hf _ (by simp [C.refs]) _ e, h⟩
  | clo f l =>
    obtain ⟨vs, e, h⟩ := h
    refine ⟨vs, e, ?_⟩
    clear e
    unfold Caps at h ⊢
    generalize vs.toList = m at h
    induction h with
    | nil => exact .nil
    | cons a _ ih =>
      rename_i x v l m _
      obtain ⟨b, h1, h2⟩ := a
      exact .cons ⟨b, hf _ (by simp [C.refs]) _ h1, h2⟩ (ih fun k hk => hf k (by simp [C.refs] at hk ⊢; exact .inr hk))
  | dead => exact h
theorem Crels.narrow {σ σ' : Sg} {H : Im} {cs : List C} {vs : List Value} (h : Crels σ H cs vs) : (∀ k ∈ cs.flatMap C.refs, ∀ u, σ k = some u → σ' k = some u) → Crels σ' H cs vs := by
  induction h with
  | nil => intro _; exact .nil
  | cons a _ ih => intro hf; exact .cons (a.narrow fun k hk => hf k (by simp [hk])) (ih fun k hk => hf k (by rw [List.flatMap_cons]; exact List.mem_append_right _ hk))
theorem Xrel.narrow {σ σ' : Sg} {H : Im} {x : Bool × List C} {v : Value} (hf : ∀ k ∈ x.2.flatMap C.refs, ∀ u, σ k = some u → σ' k = some u) (h : Xrel σ H x v) : Xrel σ' H x v := by
  unfold Xrel at *
  split
  · rename_i hx; rw [if_pos hx] at h; obtain ⟨vs, e, h⟩ := h; exact ⟨vs, e, h.narrow hf⟩
  · rename_i hx; rw [if_neg hx] at h; obtain ⟨c, e, h⟩ := h; exact ⟨c, e, h.narrow fun k hk => hf k (by rw [e]; simpa using hk)⟩
theorem Vrel.narrow {σ σ' : Sg} {H : Im} {x : DV} {v : Value} (hf : ∀ k ∈ x.refs, ∀ u, σ k = some u → σ' k = some u) (h : Vrel σ H x v) : Vrel σ' H x v := by
  cases x with
  | val a cs => exact Xrel.narrow (x := (a, cs)) hf h
  | tup vs =>
    obtain ⟨l, e, h⟩ := h
    refine ⟨l, e, ?_⟩
    clear e
    generalize l.toList = m at h
    simp only [DV.refs] at hf
    induction h with
    | nil => exact .nil
    | cons a _ ih => exact .cons (a.narrow fun k hk => hf k (by rw [List.flatMap_cons]; exact List.mem_append_left _ hk)) (ih fun k hk => hf k (by rw [List.flatMap_cons]; exact List.mem_append_right _ hk))

/-! what the text of a region must keep -/
structure RegOk (ops : Array Oper) : Prop where
  names : ∀ (i j : Nat) (oi oj : Oper) (d : Nat), ops[i]? = some oi → ops[j]? = some oj → oj.dst = some d → d ∈ Oper.looksAt ops oi → (bef ops i).testBit j = true ∨ (bef ops j).testBit i = true
  dsts : ∀ (i j : Nat) (oi oj : Oper) (d : Nat), ops[i]? = some oi → ops[j]? = some oj → oi.dst = some d → oj.dst = some d → i = j
  ord : ∀ (i : Nat) (o : Oper), ops[i]? = some o → ∀ e ∈ o.after, Region.binds .any e = true → e.on < i
theorem RegOk.bef_lt {ops : Array Oper} (h : RegOk ops) : ∀ (i : Nat) (o : Oper) (j : Nat), ops[i]? = some o → (bef ops i).testBit j = true → j < i := by
  intro i
  induction i using Nat.strongRecOn with
  | _ i ih =>
    intro o j hi hj
    obtain ⟨e, he, hb, h1⟩ := bef_ok hi hj
    have hlt := h.ord i o hi e he hb
    rcases h1 with rfl | h1
    · exact hlt
    · have hs : e.on < ops.size := Nat.lt_trans hlt (lt_of_some hi)
      exact Nat.lt_trans (ih e.on hlt ops[e.on] j (by simp [hs]) h1) hlt

/-! the run in the text's order, as functions of the place -/
structure Trc (T : Tab) (call : CallF) (mv : Bool) (nt : Nat) (ops : Array Oper) (S : Nat → St) (R : Nat → Rec) : Prop where
  step : ∀ (i : Nat) (o : Oper), ops[i]? = some o → StepR T call mv nt ops o (R i) ∧ (R i).s = S i ∧ (R i).s' = S (i + 1)
  ap : ∀ (j k : Nat), j < k → k < ops.size → (R j).run = true → (R k).run = true → Apart (bef ops k) (R k).t ⟨j, (R j).t, (S j).heap.length, (S (j + 1)).heap.length⟩

theorem Trc.of {T : Tab} {call : CallF} {mv : Bool} {nt : Nat} {ops : Array Oper} {s s' : St} (e : runDraw T call mv nt ops (Region.before ops).toList 0 ops.toList [] s = some s') :
    ∃ S R, Trc T call mv nt ops S R ∧ S 0 = s ∧ S ops.size = s' := by
  obtain ⟨recs, h1, h2, h3, h4, h5, h6, _, h8⟩ := trace _ _ _ _ _ _ e
  have hlen : recs.length = ops.size := by rw [h1]; simp
  let dflt : Rec := ⟨s', false, .none, none, [], s'⟩
  have hget : ∀ i, i < ops.size → recs[i]? = some (recs.getD i dflt) := by
    intro i hi
    rw [List.getD_eq_getElem?_getD, List.getElem?_eq_getElem (by omega)]; rfl
  have hend : ∀ i, ops.size ≤ i → (recs.getD i dflt).s = s' := by
    intro i hi
    rw [List.getD_eq_getElem?_getD, List.getElem?_eq_none (by omega)]; rfl
  have hnext : ∀ i, i < ops.size → (recs.getD i dflt).s' = (recs.getD (i + 1) dflt).s := by
    intro i hi
    rcases Nat.lt_or_ge (i + 1) ops.size with h | h
    · exact (h4 i _ _ (hget i hi) (hget (i + 1) h)).symm
    · rw [hend _ h]
      refine h5 _ ?_
      rw [List.getLast?_eq_getElem?, hlen, show ops.size - 1 = i from by omega]
      exact hget i hi
  refine ⟨fun i => (recs.getD i dflt).s, fun i => recs.getD i dflt, ⟨?_, ?_⟩, ?_, hend _ (Nat.le_refl _)⟩
  · intro i o ho
    have hi := lt_of_some ho
    exact ⟨h2 i o _ (by simpa using ho) (hget i hi), rfl, hnext i hi⟩
  · intro j k hjk hk hj hr
    have := h8 j k _ _ hjk (hget j (by omega)) (hget k hk) hj hr
    rw [Nat.zero_add, hnext j (by omega)] at this
    exact this
  · show (recs.getD 0 dflt).s = s
    rcases Nat.eq_zero_or_pos ops.size with h0 | h0
    · have : recs = [] := List.eq_nil_of_length_eq_zero (by omega)
      rw [hend 0 (by omega)]
      exact h6 this
    · exact h3 _ (hget 0 h0)

section
variable {T : Tab} {call : CallF} {mv : Bool} {nt : Nat} {ops : Array Oper} {S : Nat → St} {R : Nat → Rec} (tr : Trc T call mv nt ops S R)
include tr

theorem Trc.len1 {i : Nat} (hi : i < ops.size) : (S i).heap.length ≤ (S (i + 1)).heap.length := by
  obtain ⟨⟨_, _, h1, h2⟩, h3, h4⟩ := tr.step i ops[i] (by simp [hi])
  rw [← h3, ← h4]
  cases hr : (R i).run with
  | true =>
    obtain ⟨_, _, hl, _, he⟩ := h1 hr
    rw [he]
    simp only
    split
    · exact Nat.le_refl _
    · rw [merge_len _ _ _ _ hl]; exact hl
  | false => rw [h2 hr]; exact Nat.le_refl _
theorem Trc.len {i : Nat} : ∀ {j : Nat}, i ≤ j → j ≤ ops.size → (S i).heap.length ≤ (S j).heap.length := by
  intro j
  induction j with
  | zero => intro h _; have : i = 0 := by omega
            subst this; exact Nat.le_refl _
  | succ j ih =>
    intro h hj
    rcases Nat.lt_or_ge i (j + 1) with h' | h'
    · exact Nat.le_trans (ih (by omega) (by omega)) (tr.len1 (by omega))
    · have : i = j + 1 := by omega
      subst this; exact Nat.le_refl _

/-- An operation turns an object, or makes it. -/
def wr (S : Nat → St) (R : Nat → Rec) (i k : Nat) : Bool :=
  (R i).run && ((match (R i).t with | .writes ks => memN ks k && decide (k < (S i).heap.length) | _ => false) || (decide ((S i).heap.length ≤ k) && decide (k < (S (i + 1)).heap.length)))
def cont (S : Nat → St) (R : Nat → Rec) (L : Nat → Bool) : Nat → Nat → Ob
  | 0, k => ((S 0).heap[k]?).getD .dead
  | i + 1, k => if L i && wr S R i k then ((R i).hm[k]?).getD .dead else cont S R L i k

theorem Trc.text : ∀ (i : Nat), i ≤ ops.size → ∀ k, k < (S i).heap.length → (S i).heap[k]? = some (cont S R (fun _ => true) i k) := by
  intro i
  induction i with
  | zero => intro _ k hk; simp [cont, hk]
  | succ i ih =>
    intro hi k hk
    obtain ⟨⟨_, _, h1, h2⟩, h3, h4⟩ := tr.step i ops[i] (by simp)
    have ihk := ih (by omega) k
    simp only [cont, Bool.true_and]
    cases hr : (R i).run with
    | false =>
      have e : (S (i + 1)).heap = (S i).heap := by rw [← h4, h2 hr, ← h3]
      have hw : wr S R i k = false := by simp [wr, hr]
      rw [hw]
      simp only [Bool.false_eq_true, if_false]
      rw [e] at hk ⊢
      exact ihk hk
    | true =>
      obtain ⟨_, _, hl, _, he⟩ := h1 hr
      rw [h3] at hl he
      rw [h4] at he
      have hcase : (∃ ks, (R i).t = .reads ks) ∨ (S (i + 1)).heap = mergeFrom (R i).t.keys 0 (S i).heap (R i).hm := by
        rw [he]
        cases ht : (R i).t with
        | reads ks => exact .inl ⟨ks, rfl⟩
        | none => exact .inr rfl
        | writes ks => exact .inr rfl
      by_cases hrd : ∃ ks, (R i).t = .reads ks
      · obtain ⟨ks, ht⟩ := hrd
        have e : (S (i + 1)).heap = (S i).heap := by rw [he, ht]
        have hw : wr S R i k = false := by
          unfold wr
          rw [ht, e]
          simp
        rw [hw]
        simp only [Bool.false_eq_true, if_false]
        rw [e] at hk ⊢
        exact ihk hk
      · rcases hcase with h | e
        · exact absurd h hrd
        · have hlen : (S (i + 1)).heap.length = (R i).hm.length := by rw [e, merge_len _ _ _ _ hl]
          have hget := merge_get (R i).t.keys (S i).heap (R i).hm 0 k hl
          rw [← e, Nat.zero_add] at hget
          have hkeys : (match (R i).t with | .writes ks => memN ks k && decide (k < (S i).heap.length) | _ => false) = (memN (R i).t.keys k && decide (k < (S i).heap.length)) := by
            cases ht : (R i).t with
            | reads ks => exact absurd ⟨ks, ht⟩ hrd
            | none => simp [Touch.keys, memN]
            | writes ks => rfl
          have hw : wr S R i k = ((memN (R i).t.keys k && decide (k < (S i).heap.length)) || (decide ((S i).heap.length ≤ k) && decide (k < (S (i + 1)).heap.length))) := by
            unfold wr; rw [hr, hkeys]; simp
          by_cases hin : k < (S i).heap.length ∧ memN (R i).t.keys k = false
          · rw [if_pos hin] at hget
            have : wr S R i k = false := by rw [hw]; simp [hin.2]; omega
            rw [this]
            simp only [Bool.false_eq_true, if_false]
            rw [hget]
            exact ihk hin.1
          · rw [if_neg hin] at hget
            have : wr S R i k = true := by
              rw [hw]
              by_cases hkl : k < (S i).heap.length
              · cases hm : memN (R i).t.keys k with
                | true => simp [hkl]
                | false => exact absurd ⟨hkl, hm⟩ hin
              · simp [hk]; omega
            rw [this]
            simp only [if_true]
            rw [hget, List.getElem?_eq_getElem (by omega)]
            rfl

def outDV (r : Rec) : Option DV := if r.run then r.v else none
theorem Trc.env1 {i : Nat} {o : Oper} (ho : ops[i]? = some o) : (S (i + 1)).env = putO (S i).env o.dst (outDV (R i)) := by
  obtain ⟨⟨_, _, h1, h2⟩, h3, h4⟩ := tr.step i o ho
  rw [← h4, ← h3]
  unfold outDV
  cases hr : (R i).run with
  | true => obtain ⟨_, _, _, _, he⟩ := h1 hr; rw [he]; simp
  | false => rw [h2 hr]; simp
theorem Trc.envStay {t : Nat} {i : Nat} : ∀ {m : Nat}, i ≤ m → m ≤ ops.size → (∀ j o, ops[j]? = some o → o.dst = some t → j < i ∨ m ≤ j) → (S m).env.get t = (S i).env.get t := by
  intro m
  induction m with
  | zero => intro h _ _; have : i = 0 := by omega
            subst this; rfl
  | succ m ih =>
    intro h hm hno
    rcases Nat.lt_or_ge i (m + 1) with h' | h'
    · have hms : m < ops.size := by omega
      have ho : ops[m]? = some ops[m] := by simp [hms]
      rw [tr.env1 ho, ← ih (by omega) (by omega) (fun j o h1 h2 => by rcases hno j o h1 h2 with h | h <;> omega)]
      cases hd : ops[m].dst with
      | none => rfl
      | some d =>
        have hne : d ≠ t := by
          rintro rfl
          rcases hno m _ ho hd with h | h <;> omega
        simp only [putO, Env.get]
        have hb : Nat.beq d t = false := by
          cases hb : Nat.beq d t with
          | true => exact absurd (Nat.eq_of_beq_eq_true hb) hne
          | false => rfl
        rw [hb]; simp
    · have : i = m + 1 := by omega
      subst this; rfl
end
end Go.Idl
