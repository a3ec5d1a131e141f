/- Part of a proof that the laws of this seat return true: a machine over plain data (Idl) that is sound for the given model, and its runs. Conditions: none. -/
import Derived.Test.YtemfbebfodagpaaDraw3
set_option linter.all false
set_option linter.unusedSectionVars false
namespace Go.Idl
open Go

section
variable {P : Program} {T : Tab} (hT : RunOk P T) (hR : ReadOk T) {call : CallF} (hc : CallOk P call) {σ0 : Sg} {H0 : Im} {h0 : Heap} {w0 : World} {nt : Nat}
  {mv : Bool} {ops : Array Oper} (hreg : RegOk ops) {S : Nat → St} {R : Nat → Rec} (tr : Trc T call mv nt ops S R)

def Inv (σ0 : Sg) (H0 : Im) (h0 : Heap) (w0 : World) (nt : Nat) (ops : Array Oper) (S : Nat → St) (R : Nat → Rec) (L : Nat → Bool) (a : Act) (w : World) : Prop :=
  ∃ σ H, Post σ0 H0 h0 w0 σ H (Hc S R ops.size L) w ∧
    (∀ i k, i < ops.size → L i = false → (R i).run = true → (S i).heap.length ≤ k → k < (S (i + 1)).heap.length → σ k = none) ∧
    (∀ t dv, (∀ j o, ops[j]? = some o → o.dst = some t → L j = true) → (S ops.size).env.get t = some dv → Vrel σ H dv (a.tmps.getD t undef)) ∧
    (∀ t dv, (∀ j o, ops[j]? = some o → o.dst = some t → L j = false) → (S 0).env.get t = some dv → Vrel σ H dv (a.tmps.getD t undef)) ∧
    a.defers = [] ∧ nt ≤ a.tmps.size

include hT hR hc hreg tr
theorem inv_step (hm0 : h0.length ≤ (S 0).heap.length) {L : Nat → Bool} (hcl : Closed ops L) {i : Nat} {o : Oper} (ho : ops[i]? = some o) (hL : L i = false) (hpre : ∀ j, (bef ops i).testBit j = true → L j = true)
    {a : Act} {w : World} (inv : Inv σ0 H0 h0 w0 nt ops S R L a w) {Q : Exit → Act → World → Prop} {K : Act → World → Prop}
    (hK : ∀ a' w', Inv σ0 H0 h0 w0 nt ops S R (addL L i) a' w' → K a' w') : wpOp P ops Q i K a w := by
  obtain ⟨σ, H, p0, hnew, henv, henv0, hdef, hsz⟩ := inv
  have hi := lt_of_some ho
  obtain ⟨⟨hdst, hwant, hrunT, hrunF⟩, hsS, hsS'⟩ := tr.step i o ho
  rw [hsS] at hwant hrunT hrunF
  rw [hsS'] at hrunT hrunF
  have hN : (S (i + 1)).heap.length ≤ (S ops.size).heap.length := tr.len (by omega) (Nat.le_refl _)
  have hlen1 := tr.len1 hi
  have h0i : (S 0).heap.length ≤ (S i).heap.length := tr.len (by omega) (by omega)
  -- what it may look at lies as in the text's order
  have hlook : ∀ t ∈ Oper.looksAt ops o, ∀ dv, (S i).env.get t = some dv → Vrel σ H dv (a.tmps.getD t undef) := by
    intro t ht dv hdv
    by_cases hex : ∃ (j : Nat) (oj : Oper), ops[j]? = some oj ∧ oj.dst = some t
    · obtain ⟨j, oj, hj, hd⟩ := hex
      have huniq : ∀ (j' : Nat) (oj' : Oper), ops[j']? = some oj' → oj'.dst = some t → j' = j := fun j' oj' h1 h2 => hreg.dsts j' j oj' oj t h1 hj h2 hd
      rcases hreg.names i j o oj t ho hj hd ht with hb | hb
      · refine henv t dv (fun j' oj' h1 h2 => by rw [huniq j' oj' h1 h2]; exact hpre j hb) ?_
        rw [← hdv]
        refine tr.envStay (by omega) (Nat.le_refl _) ?_
        intro j' oj' h1 h2
        rw [huniq j' oj' h1 h2]
        exact .inl (hreg.bef_lt i o j ho hb)
      · have hlt := hreg.bef_lt j oj i hj hb
        have hLj : L j = false := by
          cases h : L j with
          | false => rfl
          | true => have := hcl j (lt_of_some hj) h i hb; rw [hL] at this; cases this
        refine henv0 t dv (fun j' oj' h1 h2 => by rw [huniq j' oj' h1 h2]; exact hLj) ?_
        rw [← hdv]
        refine (tr.envStay (i := 0) (by omega) (by omega) ?_).symm
        intro j' oj' h1 h2
        rw [huniq j' oj' h1 h2]
        exact .inr (by omega)
    · refine henv0 t dv (fun j oj h1 h2 => absurd ⟨j, oj, h1, h2⟩ hex) ?_
      rw [← hdv]
      refine (tr.envStay (i := 0) (by omega) (by omega) ?_).symm
      intro j oj h1 h2
      exact absurd ⟨j, oj, h1, h2⟩ hex
  have hwanted := wanted_ok' hlook hwant
  -- the names after it
  have envNew : ∀ (σ2 : Sg) (H2 : Im) (rv : Value), Sle σ σ2 → Hle H H2 → OutRel σ2 H2 (outDV (R i)) rv → ∀ t dv, (∀ j oj, ops[j]? = some oj → oj.dst = some t → addL L i j = true) → (S ops.size).env.get t = some dv →
      Vrel σ2 H2 dv ((a.put o.dst rv).tmps.getD t undef) := by
    intro σ2 H2 rv hs hh hv t dv hall hdv
    by_cases hd : o.dst = some t
    · have hstay := tr.envStay (t := t) (i := i + 1) (m := ops.size) (by omega) (Nat.le_refl _) (by
        intro j oj hj hdj
        have := hreg.dsts i j o oj t ho hj hd hdj
        omega)
      rw [hstay, tr.env1 ho] at hdv
      have hnil : EnvOk σ2 H2 [] a := by intro t dv h; simp [Env.get] at h
      have := put_ok hnil hdst hsz hv
      refine this t dv ?_
      rw [hd] at hdv ⊢
      simp only [putO, Env.get, Nat.beq_refl, if_true] at hdv ⊢
      exact hdv
    · have h1 : (a.put o.dst rv).tmps.getD t undef = a.tmps.getD t undef := by
        cases hdo : o.dst with
        | none => rfl
        | some d =>
          have hne : d ≠ t := by rintro rfl; exact hd hdo
          simp [Act.put, Array.getD_eq_getD_getElem?, Array.getElem?_setIfInBounds_ne hne]
      rw [h1]
      refine (henv t dv ?_ hdv).mono hs hh
      intro j oj hj hdj
      have := hall j oj hj hdj
      unfold addL at this
      split at this
      · rename_i hji
        subst hji
        rw [ho] at hj; cases hj
        exact absurd hdj hd
      · exact this
  have envNew0 : ∀ (σ2 : Sg) (H2 : Im) (rv : Value), Sle σ σ2 → Hle H H2 → ∀ t dv, (∀ j oj, ops[j]? = some oj → oj.dst = some t → addL L i j = false) → (S 0).env.get t = some dv →
      Vrel σ2 H2 dv ((a.put o.dst rv).tmps.getD t undef) := by
    intro σ2 H2 rv hs hh t dv hall hdv
    have hd : o.dst ≠ some t := by
      intro hd
      have := hall i o ho hd
      simp [addL] at this
    have h1 : (a.put o.dst rv).tmps.getD t undef = a.tmps.getD t undef := by
      cases hdo : o.dst with
      | none => rfl
      | some d =>
        have hne : d ≠ t := by rintro rfl; exact hd hdo
        simp [Act.put, Array.getD_eq_getD_getElem?, Array.getElem?_setIfInBounds_ne hne]
    rw [h1]
    refine (henv0 t dv ?_ hdv).mono hs hh
    intro j oj hj hdj
    have := hall j oj hj hdj
    unfold addL at this
    split at this
    · cases this
    · exact this
  unfold wpOp
  rw [ho]
  simp only
  cases hr : (R i).run with
  | false =>
    rw [hr] at hwanted
    rw [if_neg (by rw [hwanted]; simp)]
    refine hK _ _ ⟨σ, H, ?_, ?_, envNew σ H undef (.refl σ) (.refl H) (by simp [outDV, hr, OutRel]), envNew0 σ H undef (.refl σ) (.refl H), by rw [put_defers]; exact hdef, by rw [put_size]; exact hsz⟩
    · have : Hc S R ops.size (addL L i) = Hc S R ops.size L := by
        unfold Hc
        refine List.map_congr_left fun k _ => ?_
        rw [contB tr hcl hi hL k]
        have : wr S R i k = false := by simp [wr, hr]
        rw [this]; simp
      rw [this]; exact p0
    · intro j k hj hLj hrj h1 h2
      unfold addL at hLj
      split at hLj
      · cases hLj
      · exact hnew j k hj hLj hrj h1 h2
  | true =>
    rw [hr] at hwanted
    rw [if_pos hwanted]
    refine .inl ?_
    obtain ⟨ht, hop, hml, hwf, hs'⟩ := hrunT hr
    -- memory as it sees it
    let σi : Sg := fun k => if k < (S i).heap.length then σ k else none
    let M := maskFrom (R i).t.keys 0 (S i).heap
    have hMlen : M.length = (S i).heap.length := mask_len _ _ _
    have memM : ∀ (k : Nat) (o : Ob), M[k]? = some o → o.live = true → k ∈ (R i).t.keys ∧ k < (S i).heap.length ∧ cont S R L ops.size k = o := by
      intro k o hk hl
      have hkl : k < (S i).heap.length := by have := ltl_of_some hk; omega
      rw [mask_get, Nat.zero_add, tr.text i (by omega) k hkl] at hk
      simp only [Option.map_some, Option.some.injEq] at hk
      split at hk
      · rename_i hm
        have hm := memN_iff.1 hm
        exact ⟨hm, hkl, by rw [contA tr hcl hi hL hr hpre hm hkl]; exact hk⟩
      · subst hk; simp [Ob.live] at hl
    have hHc : ∀ (k : Nat) (o : Ob), M[k]? = some o → o.live = true → (Hc S R ops.size L)[k]? = some o := by
      intro k o hk hl
      obtain ⟨_, h2, h3⟩ := memM k o hk hl
      exact Hc_get.2 ⟨by omega, h3⟩
    have σi_some : ∀ k v, σi k = some v → k < (S i).heap.length ∧ σ k = some v := by
      intro k v h
      simp only [σi] at h
      split at h
      · exact ⟨by assumption, h⟩
      · cases h
    have hci : ∀ {c : C} {v : Value}, (∀ k ∈ c.refs, k < (S i).heap.length) → Crel σ H c v → Crel σi H c v := fun hlt h => h.narrow fun k hk u hu => by simp only [σi]; rw [if_pos (hlt k hk)]; exact hu
    have rM : RelM σi H M w := by
      refine ⟨?_, ?_, ?_, p0.rel.imm, ?_⟩
      · intro k o v h1 h2
        by_cases hl : o.live = true
        · have hO := p0.rel.obj k o v (hHc k o h1 hl) (σi_some k v h2).2
          -- what the object leads to
          cases o with
          | dead => trivial
          | arr fz st t sz es => exact hO
          | map ka va es => exact hO
          | box fz cs =>
            obtain ⟨b, c, Ty, e, hb, hcs⟩ := hO
            refine ⟨b, c, Ty, e, hb, ?_⟩
            obtain ⟨hk1, hk2, hk3⟩ := memM k _ h1 hl
            unfold wfKeys at hwf
            rw [List.all_eq_true] at hwf
            have hwk := hwf k hk1
            rw [tr.text i (by omega) k hk2] at hwk
            simp only at hwk
            rw [← contA tr hcl hi hL hr hpre hk1 hk2, hk3] at hwk
            rw [List.all_eq_true] at hwk
            refine hcs.narrow fun j hj u hu => ?_
            have := hwk j hj
            simp only [Nat.blt_eq] at this
            simp only [σi]
            rw [if_pos this]; exact hu
        · cases o <;> simp [Ob.live] at hl; trivial
      · intro k o v b h1 hl h2 hb
        exact p0.rel.held k o v b (hHc k o h1 hl) hl (σi_some k v h2).2 hb
      · intro k hk
        simp only [σi]
        rw [if_neg (by omega)]
      · intro k k' o o' v v' b h1 h2 l1 l2 s1 s2 b1 b2
        exact p0.rel.sep k k' o o' v v' b (hHc k o h1 l1) (hHc k' o' h2 l2) l1 l2 (σi_some k v s1).2 (σi_some k' v' s2).2 b1 b2
    have ownM : ∀ b, Own σi M b → ∃ k o v, k ∈ (R i).t.keys ∧ k < (S i).heap.length ∧ (Hc S R ops.size L)[k]? = some o ∧ o.live = true ∧ σ k = some v ∧ blk v = some b := by
      rintro b ⟨k, o, v, h1, h2, h3, h4⟩
      obtain ⟨g1, g2, _⟩ := memM k o h1 h2
      exact ⟨k, o, v, g1, g2, hHc k o h1 h2, h2, (σi_some k v h3).2, h4⟩
    have hρ : Ops σi H (opnd1 T (S i).env (S i).heap.length o) a.eval := by
      intro x dv e
      cases x with
      | tmp t =>
        simp only [opnd1] at e
        split at e
        · rename_i hmem
          split at e
          · rename_i v hv
            split at e
            · rename_i hrefs
              cases e
              refine (hlook t (looks_operand hmem) _ hv).narrow fun k hk u hu => ?_
              rw [List.all_eq_true] at hrefs
              have := hrefs k hk
              simp only [Nat.blt_eq] at this
              simp only [σi]
              rw [if_pos this]; exact hu
            · cases e
          · cases e
        · cases e
      | const v => exact constDV_ok e
      | global g => simp [opnd1, opnd, hT.glob] at e
      | func f => simp only [opnd1, opnd, Option.some.injEq] at e; subst e; exact Vrel.one.2 (.fn f)
    refine (runOp_ok hT.toCallsOk hc rM hρ hop).upon ?_
    rintro rv w' ⟨σ', H', p, hv⟩
    -- how much memory there is now
    have hreads : ∀ ks, (R i).t = .reads ks → (R i).hm = M := by
      intro ks hk
      exact reads_same hR (ks := ks) (ht.symm.trans hk) hop
    have hlenR : (S (i + 1)).heap.length = (R i).hm.length := by
      have e : (S (i + 1)).heap = match (R i).t with | .reads _ => (S i).heap | t => mergeFrom t.keys 0 (S i).heap (R i).hm := by rw [hs']; rfl
      cases hk : (R i).t with
      | reads ks => rw [hk] at e; rw [hreads ks hk, hMlen, e]
      | none => rw [hk] at e; rw [e]; exact merge_len _ _ _ _ hml
      | writes ks => rw [hk] at e; rw [e]; exact merge_len _ _ _ _ hml
    let σ2 : Sg := fun k => if (S i).heap.length ≤ k ∧ k < (S (i + 1)).heap.length then σ' k else σ k
    have s1 : ∀ k, k < (S i).heap.length → σ' k = σ k := by
      intro k hk
      rw [p.old k (by omega)]
      simp only [σi]
      rw [if_pos hk]
    have s2 : Sle σ σ2 := by
      intro k u hu
      simp only [σ2]
      split
      · rename_i h; rw [hnew i k hi hL hr h.1 h.2] at hu; cases hu
      · exact hu
    have s3 : Sle σ' σ2 := by
      intro k u hu
      have hk : k < (R i).hm.length := by
        rcases Nat.lt_or_ge k (R i).hm.length with h | h
        · exact h
        · rw [p.rel.dom k h] at hu; cases hu
      simp only [σ2]
      split
      · exact hu
      · rename_i h
        rw [← s1 k (by omega)]; exact hu
    have contT : ∀ k, Tch S R i k → (R i).hm[k]? = some (cont S R (addL L i) ops.size k) ∧ σ2 k = σ' k := by
      intro k hk
      have hkl : k < (R i).hm.length := by rcases hk with h | h <;> omega
      refine ⟨?_, ?_⟩
      · rw [contB tr hcl hi hL k]
        by_cases hw : wr S R i k = true
        · rw [if_pos hw, List.getElem?_eq_getElem hkl]; rfl
        · rw [if_neg hw]
          rcases hk with ⟨h1, h2⟩ | h
          · cases htt : (R i).t with
            | none => rw [htt] at h1; simp [Touch.keys] at h1
            | writes ks =>
              rw [htt] at h1
              exfalso
              apply hw
              unfold wr
              rw [hr, htt]
              have h1' : memN ks k = true := memN_iff.2 h1
              simp [h1', h2]
            | reads ks =>
              rw [hreads ks htt, contA tr hcl hi hL hr hpre h1 h2]
              show (maskFrom _ 0 _)[k]? = _
              rw [mask_get, tr.text i (by omega) k h2, Nat.zero_add]
              simp [memN_iff.2 h1]
          · exfalso
            apply hw
            unfold wr
            rw [hr]
            simp [h.1, h.2]
      · simp only [σ2]
        split
        · rfl
        · rename_i h
          rcases hk with h' | h'
          · exact (s1 k h'.2).symm
          · exact absurd h' h
    have contN : ∀ k, ¬ Tch S R i k → cont S R (addL L i) ops.size k = cont S R L ops.size k ∧ σ2 k = σ k := by
      intro k hk
      refine ⟨?_, ?_⟩
      · rw [contB tr hcl hi hL k, if_neg (fun h => hk (wr_tch tr h))]
      · simp only [σ2]
        rw [if_neg (fun h => hk (.inr h))]
    have nosub : ∀ (k : Nat) (o : Ob) (v : Value) (b : Nat), ¬ Tch S R i k → (Hc S R ops.size L)[k]? = some o → o.live = true → σ k = some v → blk v = some b → ¬ Own σi M b := by
      intro k o v b hk h1 h2 h3 h4 ho
      obtain ⟨k', o', v', g1, g2, g3, g4, g5, g6⟩ := ownM b ho
      have := p0.rel.sep k k' o o' v v' b h1 g3 h2 g4 h3 g5 h4 g6
      subst this
      exact hk (.inl ⟨g1, g2⟩)
    have toOwn : ∀ b, Own σi M b → Own σ (Hc S R ops.size L) b := by
      intro b ho
      obtain ⟨k', o', v', g1, g2, g3, g4, g5, g6⟩ := ownM b ho
      exact ⟨k', o', v', g3, g4, g5, g6⟩
    have hsame : ∀ (k : Nat) (o : Ob) (v : Value) (b : Nat), ¬ Tch S R i k → (Hc S R ops.size L)[k]? = some o → o.live = true → σ k = some v → blk v = some b → w'.heap[b]? = w.heap[b]? ∧ ∀ i, H' b i = H b i := by
      intro k o v b hk h1 h2 h3 h4
      have hno := nosub k o v b hk h1 h2 h3 h4
      have hb := (p0.rel.obj k o v h1 h3).lt h2 h4
      refine ⟨p.frame b hb hno, fun i => ?_⟩
      cases h' : H' b i with
      | some x =>
        rcases p.grow b i x h' with h5 | h5 | h5
        · exact h5.symm
        · exact absurd h5 hno
        · omega
      | none =>
        cases h'' : H b i with
        | none => rfl
        | some x => rw [p.hle b i x h''] at h'; cases h'
    have cases2 : ∀ (k : Nat) (o : Ob), (Hc S R ops.size (addL L i))[k]? = some o → (Tch S R i k ∧ (R i).hm[k]? = some o ∧ σ2 k = σ' k) ∨ (¬ Tch S R i k ∧ (Hc S R ops.size L)[k]? = some o ∧ σ2 k = σ k) := by
      intro k o hk
      obtain ⟨g1, g2⟩ := Hc_get.1 hk
      by_cases ht : Tch S R i k
      · obtain ⟨h1, h2⟩ := contT k ht
        exact .inl ⟨ht, by rw [h1, g2], h2⟩
      · obtain ⟨h1, h2⟩ := contN k ht
        exact .inr ⟨ht, Hc_get.2 ⟨g1, by rw [← h1, g2]⟩, h2⟩
    have rel2 : RelM σ2 H' (Hc S R ops.size (addL L i)) w' := by
      refine ⟨?_, ?_, ?_, p.rel.imm, ?_⟩
      · intro k o v h1 h2
        rcases cases2 k o h1 with ⟨_, h3, h4⟩ | ⟨hn, h3, h4⟩
        · rw [h4] at h2; exact (p.rel.obj k o v h3 h2).mono s3 (.refl H')
        · rw [h4] at h2
          by_cases hl : o.live = true
          · exact ((p0.rel.obj k o v h3 h2).mono s2 p.hle).congr (fun b hb => (hsame k o v b hn h3 hl h2 hb).1)
          · cases o <;> simp [Ob.live] at hl; trivial
      · intro k o v b h1 hl h2 hb
        rcases cases2 k o h1 with ⟨_, h3, h4⟩ | ⟨hn, h3, h4⟩
        · rw [h4] at h2; exact p.rel.held k o v b h3 hl h2 hb
        · rw [h4] at h2
          have := hsame k o v b hn h3 hl h2 hb
          exact ((p0.rel.held k o v b h3 hl h2 hb).congr this.1).himm this.2
      · intro k hk
        rw [Hc_len] at hk
        simp only [σ2]
        rw [if_neg (by omega)]
        exact p0.rel.dom k (by rw [Hc_len]; exact hk)
      · intro k k' o o' v v' b h1 h2 l1 l2 v1 v2 b1 b2
        have mixed : ∀ (k k' : Nat) (v v' : Value) (o o' : Ob), (R i).hm[k]? = some o → o.live = true → σ' k = some v → blk v = some b → ¬ Tch S R i k' → (Hc S R ops.size L)[k']? = some o' → o'.live = true → σ k' = some v' → blk v' = some b → False := by
          intro k k' v v' o o' g1 g2 g3 g4 e1 e2 e3 e4 e5
          rcases p.fresh b ⟨k, o, v, g1, g2, g3, g4⟩ with h5 | h5
          · exact nosub k' o' v' b e1 e2 e3 e4 e5 h5
          · have := (p0.rel.obj k' o' v' e2 e4).lt e3 e5; omega
        rcases cases2 k o h1 with ⟨t1, h3, h4⟩ | ⟨n1, h3, h4⟩ <;> rcases cases2 k' o' h2 with ⟨t2, h5, h6⟩ | ⟨n2, h5, h6⟩ <;> rw [h4] at v1 <;> rw [h6] at v2
        · exact p.rel.sep k k' o o' v v' b h3 h5 l1 l2 v1 v2 b1 b2
        · exact (mixed k k' v v' o o' h3 l1 v1 b1 n2 h5 l2 v2 b2).elim
        · exact (mixed k' k v' v o' o h5 l2 v2 b2 n1 h3 l1 v1 b1).elim
        · exact p0.rel.sep k k' o o' v v' b h3 h5 l1 l2 v1 v2 b1 b2
    refine hK _ _ ⟨σ2, H', ?_, ?_, ?_, envNew0 σ2 H' rv s2 p.hle, by rw [put_defers]; exact hdef, by rw [put_size]; exact hsz⟩
    · refine ⟨p0.ext.trans s2, ?_, p0.hle.trans p.hle, rel2, by rw [Hc_len]; have := p0.len; rwa [Hc_len] at this, p0.same.trans p.same, Nat.le_trans p0.size p.size, ?_, ?_, ?_⟩
      · intro k hk
        rw [← p0.old k hk]
        simp only [σ2]
        rw [if_neg (by omega)]
      · intro b hb hno
        rw [p.frame b (Nat.lt_of_lt_of_le hb p0.size) (fun ho => (p0.fresh b (toOwn b ho)).elim hno (fun h => by omega)), p0.frame b hb hno]
      · rintro b ⟨k, o, v, h1, h2, h3, h4⟩
        rcases cases2 k o h1 with ⟨_, h5, h6⟩ | ⟨_, h5, h6⟩ <;> rw [h6] at h3
        · rcases p.fresh b ⟨k, o, v, h5, h2, h3, h4⟩ with h | h
          · exact p0.fresh b (toOwn b h)
          · exact .inr (Nat.le_trans p0.size h)
        · exact p0.fresh b ⟨k, o, v, h5, h2, h3, h4⟩
      · intro b j u hu
        rcases p.grow b j u hu with h | h | h
        · exact p0.grow b j u h
        · exact .inr (p0.fresh b (toOwn b h))
        · exact .inr (.inr (Nat.le_trans p0.size h))
    · intro j k hj hLj hrj h1 h2
      unfold addL at hLj
      split at hLj
      · cases hLj
      · rename_i hji
        simp only [σ2]
        have hdis : ¬ ((S i).heap.length ≤ k ∧ k < (S (i + 1)).heap.length) := by
          rintro ⟨q1, q2⟩
          rcases Nat.lt_or_gt_of_ne hji with h | h
          · have := tr.len (i := j + 1) (j := i) (by omega) (by omega); omega
          · have := tr.len (i := i + 1) (j := j) (by omega) (by omega); omega
        rw [if_neg hdis]
        exact hnew j k hj hLj hrj h1 h2
    · refine envNew σ2 H' rv s2 p.hle ?_
      unfold outDV
      rw [hr]
      simp only [if_true]
      unfold OutRel at hv ⊢
      split
      · rename_i dv hdv; rw [hdv] at hv; exact hv.mono s3 (.refl H')
      · rename_i hdv; rw [hdv] at hv; exact hv
end
end Go.Idl
