/- Part of a proof that the laws of this seat return true: a machine over plain data (Idl) that is sound for the given model, and its runs. Conditions: none. -/
import Derived.Test.YtemfbebfodagpaaDraw5
set_option linter.all false
set_option linter.unusedSectionVars false
namespace Go.Idl
open Go

/-! the static check of a region -/
def regNames (ops : Array Oper) : Bool :=
  let l := ops.toList.zipIdx
  let B := (Region.before ops).toList
  l.all fun x =>
    let b := B.getD x.2 0
    let ls := Oper.looksAt ops x.1
    l.all fun y => match y.1.dst with | some d => !memN ls d || b.testBit y.2 || (B.getD y.2 0).testBit x.2 | none => true
def regDsts (ops : Array Oper) : Bool :=
  let l := ops.toList.zipIdx
  l.all fun x => match x.1.dst with
    | some d => l.all fun y => match y.1.dst with | some e => Nat.beq x.2 y.2 || !Nat.beq d e | none => true
    | none => true
def regOrd (ops : Array Oper) : Bool := ops.toList.zipIdx.all fun x => x.1.after.toList.all fun e => !Region.binds .any e || Nat.blt e.on x.2
def regOk (ops : Array Oper) : Bool := regNames ops && regDsts ops && regOrd ops
theorem zip_mem {ops : Array Oper} {i : Nat} {o : Oper} (h : ops[i]? = some o) : (o, i) ∈ ops.toList.zipIdx := by
  rw [List.mem_zipIdx_iff_getElem?]
  simpa using h
theorem regOk_ok {ops : Array Oper} (h : regOk ops = true) : RegOk ops := by
  simp only [regOk, Bool.and_eq_true] at h
  obtain ⟨⟨h1, h2⟩, h3⟩ := h
  refine ⟨?_, ?_, ?_⟩
  · intro i j oi oj d hi hj hd hm
    simp only [regNames, List.all_eq_true] at h1
    have := h1 (oi, i) (zip_mem hi) (oj, j) (zip_mem hj)
    simp only [hd, memN_iff.2 hm, Bool.not_true, Bool.false_or, Bool.or_eq_true] at this
    exact this
  · intro i j oi oj d hi hj hdi hdj
    simp only [regDsts, List.all_eq_true] at h2
    have := h2 (oi, i) (zip_mem hi)
    simp only [hdi, List.all_eq_true] at this
    have := this (oj, j) (zip_mem hj)
    simp only [hdj, Nat.beq_refl, Bool.not_true, Bool.or_false] at this
    exact Nat.eq_of_beq_eq_true this
  · intro i o hi e he hb
    simp only [regOrd, List.all_eq_true] at h3
    have := h3 (o, i) (zip_mem hi) e (by simpa using he)
    simp only [hb, Bool.not_true, Bool.false_or, Nat.blt_eq] at this
    exact this

def codeOk : Code → Bool
  | .region _ ops draw => !draw || regOk ops
  | .seq a b => codeOk a && codeOk b
  | .cond _ a b => codeOk a && codeOk b
  | .block _ a => codeOk a
  | .loop a => codeOk a
  | _ => true

def exOf : Ex → Exit
  | .normal => .normal
  | .exit id => .exit id
  | .ret => .ret

theorem exMin {p : Nat → Prop} (h : ∃ n, p n) : ∃ n, p n ∧ ∀ m, p m → n ≤ m := by
  obtain ⟨n, hn⟩ := h
  induction n using Nat.strongRecOn with
  | _ n ih =>
    by_cases hx : ∃ m, m < n ∧ p m
    · obtain ⟨m, h1, h2⟩ := hx; exact ih m h1 h2
    · refine ⟨n, hn, fun m hm => ?_⟩
      rcases Nat.lt_or_ge m n with h | h
      · exact absurd ⟨m, h, hm⟩ hx
      · exact h

theorem filter_get {keys : List Nat} {e : Env} : ∀ x ∈ filterEnv keys e, e.get x.1 = some x.2 := by
  intro x hx
  simp only [filterEnv, List.mem_filterMap] at hx
  obtain ⟨t, _, h⟩ := hx
  split at h
  · rename_i v hv; cases h; exact hv
  · cases h
theorem filter_envL {σ : Sg} {H : Im} {keys : List Nat} {e : Env} {a : Act} (h : EnvOk σ H e a) : EnvL σ H (filterEnv keys e) a := fun x hx => h _ _ (filter_get x hx)

theorem frzEnv_ok {a : Act} {w : World} {fz : List Nat} : ∀ (env : Env) (σ : Sg) (H : Im) (h : Heap) (env' : Env) (h' : Heap), frzEnv fz h env = some (env', h') → RelM σ H h w → EnvL σ H env a →
    ∃ H', Post σ H h w σ H' h' w ∧ EnvL σ H' env' a := by
  intro env
  induction env with
  | nil => intro σ H h env' h' e r _; simp [frzEnv] at e; obtain ⟨rfl, rfl⟩ := e; exact ⟨H, .refl r, by intro x hx; simp at hx⟩
  | cons x env ih =>
    obtain ⟨t, v⟩ := x
    intro σ H h env' h' e r hl
    have hx := hl (t, v) List.mem_cons_self
    have hrest : EnvL σ H env a := fun y hy => hl y (List.mem_cons_of_mem _ hy)
    simp only [frzEnv] at e
    have fin : ∀ (v1 : DV) (h1 : Heap) (H1 : Im), Post σ H h w σ H1 h1 w → Vrel σ H1 v1 (a.tmps.getD t undef) →
        (match frzEnv fz h1 env with | some (e, h) => some ((t, v1) :: e, h) | none => none) = some (env', h') → ∃ H', Post σ H h w σ H' h' w ∧ EnvL σ H' env' a := by
      intro v1 h1 H1 p hv e
      split at e
      · rename_i env2 h2 he
        cases e
        obtain ⟨H2, q, hq⟩ := ih σ H1 h1 _ _ he p.rel (fun y hy => (hrest y hy).mono (.refl σ) p.hle)
        refine ⟨H2, p.trans q, ?_⟩
        intro y hy
        rcases List.mem_cons.1 hy with rfl | hy
        · exact hv.mono (.refl σ) q.hle
        · exact hq y hy
      · cases e
    split at e
    · rename_i v1 h1 hone
      split at hone
      · split at hone
        · rename_i _ ag cs
          split at hone
          · rename_i ds h2 hf
            cases hone
            obtain ⟨H1, p, hd⟩ := frzL_ok hf r hx.cells
            refine fin _ _ H1 p ?_ e
            simp only [Vrel, Xrel] at hx ⊢
            cases ag with
            | true => obtain ⟨l, e, _⟩ := hx; rw [e] at hd ⊢; exact ⟨l, rfl, hd.crels⟩
            | false =>
              obtain ⟨c, rfl, hc⟩ := hx
              rw [oneCell_cells hc.one] at hd
              simp only [Bool.false_eq_true, if_false]
              cases hd with
              | cons h1 ht => cases ht; exact ⟨_, rfl, h1⟩
          · cases hone
        · cases hone; exact fin _ _ H (.refl r) hx e
      · cases hone; exact fin _ _ H (.refl r) hx e
    · cases e

theorem norm_ok {σ0 : Sg} {H0 : Im} {h0 : Heap} {w0 : World} (dom0 : ∀ k, h0.length ≤ k → σ0 k = none) {nt : Nat} {keys fz : List Nat} {s s1 : St} {a : Act} {w : World}
    (e : norm h0.length keys fz s = some s1) (hs : StOk σ0 H0 h0 w0 nt s a w) : StOk σ0 H0 h0 w0 nt s1 a w := by
  obtain ⟨σ, H, p, henv, hd, hn⟩ := hs
  unfold norm at e
  split at e
  · rename_i env h hf
    cases e
    obtain ⟨H1, p1, hl⟩ := frzEnv_ok _ σ H s.heap _ _ hf p.rel (filter_envL henv)
    obtain ⟨h1, ⟨l, h2⟩, _⟩ := reach_ok 1000 h (List.range h0.length) ((h.take h0.length).flatMap Ob.refs ++ env.flatMap fun x => x.2.refs) List.nodup_range
    refine ⟨_, H1, Post.gc dom0 (p.trans p1) h1 h2, ?_, hd, hn⟩
    refine EnvL.ok ?_
    intro x hx
    simp only [List.mem_map] at hx
    obtain ⟨y, hy, rfl⟩ := hx
    exact (hl y hy).ren subσ_idx
  · cases e

section
variable {P : Program} {T : Tab} (hT : RunOk P T) (hR : ReadOk T) {call : CallF} (hc : CallOk P call) (hmix : P.follows Departure.mixedOrders = true) {σ0 : Sg} {H0 : Im} {h0 : Heap} {w0 : World}
include hT hR hc hmix

theorem runCode_ok (r0 : RelM σ0 H0 h0 w0) {F : Fr} (hm : F.m = h0.length) : ∀ (c : Code) (blk : Nat) (s : St) (ex : Ex) (s' : St) (a : Act) (w : World), codeOk c = true → runCode T call F blk c s = some (ex, s') →
    StOk σ0 H0 h0 w0 F.nt s a w → Code.wp P c (fun e a' w' => e = exOf ex ∧ StOk σ0 H0 h0 w0 F.nt s' a' w') a w := by
  intro c
  induction c with
  | skip => intro blk s ex s' a w _ e hs; simp [runCode] at e; obtain ⟨rfl, rfl⟩ := e; exact wp_skip ⟨rfl, hs⟩
  | region id ops draw =>
    intro blk s ex s' a w hok e hs
    simp only [runCode] at e
    split at e
    · rename_i s1 h1
      cases e
      have fin : ∀ a' w', StOk σ0 H0 h0 w0 F.nt s1 a' w' → Exit.normal = exOf .normal ∧ StOk σ0 H0 h0 w0 F.nt ⟨filterEnv F.live s1.env, s1.heap⟩ a' w' := by
        rintro a' w' ⟨σ, H, p, henv, hd, hn⟩
        exact ⟨rfl, σ, H, p, (filter_envL henv).ok, hd, hn⟩
      cases draw with
      | true =>
        simp only [codeOk, Bool.not_true, Bool.false_or] at hok
        simp only [if_true] at h1
        exact runDraw_ok hT hR hc (regOk_ok hok) hmix h1 hs fin
      | false =>
        simp only [Bool.false_eq_true, if_false] at h1
        exact wp_region_list (runOps_ok hT hc _ _ _ _ _ h1 hs fin)
    · cases e
  | seq x y ihx ihy =>
    intro blk s ex s' a w hok e hs
    simp only [codeOk, Bool.and_eq_true] at hok
    simp only [runCode] at e
    refine wp_seq ?_
    split at e
    · rename_i s1 h1
      refine wp_mono (ihx blk s .normal s1 a w hok.1 h1 hs) ?_
      rintro _ a' w' ⟨rfl, hs'⟩
      exact ihy blk s1 ex s' a' w' hok.2 e hs'
    · rename_i hno
      cases hx : runCode T call F blk x s with
      | none => rw [hx] at e; cases e
      | some v =>
        obtain ⟨ex1, s1⟩ := v
        rw [hx] at e
        cases e
        refine wp_mono (ihx blk s ex s' a w hok.1 hx hs) ?_
        rintro _ a' w' ⟨rfl, hs'⟩
        cases ex with
        | normal => exact absurd hx (hno _)
        | exit id => exact ⟨rfl, hs'⟩
        | ret => exact ⟨rfl, hs'⟩
  | cond c x y ihx ihy =>
    intro blk s ex s' a w hok e hs
    simp only [codeOk, Bool.and_eq_true] at hok
    simp only [runCode] at e
    split at e
    · rename_i b hb
      obtain ⟨σ, H, p, henv, hd, hn⟩ := hs
      have hp := Vrel.one.1 (opnd_ok hT henv _ _ hb)
      have hbe : a.eval c = .bool b := by
        generalize a.eval c = z at hp
        cases hp; rfl
      refine wp_cond hbe ?_
      cases b with
      | true => exact ihx blk s ex s' a w hok.1 e ⟨σ, H, p, henv, hd, hn⟩
      | false => exact ihy blk s ex s' a w hok.2 e ⟨σ, H, p, henv, hd, hn⟩
    · cases e
  | block id x ih =>
    intro blk s ex s' a w hok e hs
    simp only [codeOk] at hok
    simp only [runCode] at e
    refine wp_block ?_
    split at e
    · rename_i j s1 h1
      refine wp_mono (ih id s (.exit j) s1 a w hok h1 hs) ?_
      rintro _ a' w' ⟨rfl, hs'⟩
      simp only [exOf, Exit.inBlock]
      split at e
      · rename_i hj; cases e; rw [if_pos (Nat.eq_of_beq_eq_true hj)]; exact ⟨rfl, hs'⟩
      · rename_i hj
        cases e
        rw [if_neg (by rintro rfl; exact hj (Nat.beq_refl _))]
        exact ⟨rfl, hs'⟩
    · rename_i hno
      refine wp_mono (ih id s ex s' a w hok e hs) ?_
      rintro _ a' w' ⟨rfl, hs'⟩
      cases ex with
      | exit j => exact absurd e (hno _ _)
      | normal => exact ⟨rfl, hs'⟩
      | ret => exact ⟨rfl, hs'⟩
  | loop x ih =>
    intro blk s ex s' a w hok e hs
    simp only [codeOk] at hok
    simp only [runCode] at e
    rw [hm] at e
    generalize s.env.map (·.1) = keys at e
    let J : Nat → Act → World → Prop := fun n a w => ∃ s, iter (runCode T call F blk x) (norm h0.length keys (F.fz blk)) n s = some (ex, s') ∧ StOk σ0 H0 h0 w0 F.nt s a w
    have hJ : ∃ n, J n a w := ⟨F.n, s, e, hs⟩
    classical
    let μ : Act → World → Nat := fun a w => if h : ∃ n, J n a w then Classical.choose (exMin h) else 0
    refine wp_loop (fun a w => ∃ n, J n a w) μ hJ ?_
    intro a w hI
    have hμ : μ a w = Classical.choose (exMin hI) := by simp only [μ]; rw [dif_pos hI]
    have hJn := (Classical.choose_spec (exMin hI)).1
    rw [← hμ] at hJn
    generalize μ a w = n at hJn ⊢
    obtain ⟨s, e, hs⟩ := hJn
    cases n with
    | zero => simp [iter] at e
    | succ n =>
      simp only [iter] at e
      split at e
      · rename_i s1 hn1
        have hs1 := norm_ok r0.dom hn1 hs
        split at e
        · rename_i s2 hb
          refine wp_mono (ih blk s1 .normal s2 a w hok hb hs1) ?_
          rintro _ a' w' ⟨rfl, hs'⟩
          have hJ' : J n a' w' := ⟨s2, e, hs'⟩
          refine ⟨⟨n, hJ'⟩, ?_⟩
          have : μ a' w' ≤ n := by
            simp only [μ]
            rw [dif_pos ⟨n, hJ'⟩]
            exact (Classical.choose_spec (exMin ⟨n, hJ'⟩)).2 n hJ'
          omega
        · rename_i hno
          refine wp_mono (ih blk s1 ex s' a w hok e hs1) ?_
          rintro _ a' w' ⟨rfl, hs'⟩
          cases ex with
          | normal => exact absurd e (hno _)
          | exit id => exact ⟨rfl, hs'⟩
          | ret => exact ⟨rfl, hs'⟩
      · cases e
  | exit id => intro blk s ex s' a w _ e hs; simp [runCode] at e; obtain ⟨rfl, rfl⟩ := e; exact wp_exit ⟨rfl, hs⟩
  | ret => intro blk s ex s' a w _ e hs; simp [runCode] at e; obtain ⟨rfl, rfl⟩ := e; exact wp_ret ⟨rfl, hs⟩
  | _ => intros; rename_i e _; simp [runCode] at e
end
end Go.Idl
