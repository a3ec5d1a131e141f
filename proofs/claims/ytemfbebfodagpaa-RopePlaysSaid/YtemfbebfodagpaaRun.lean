/- Part of a proof that the laws of this seat return true: a machine over plain data (Idl) that is sound for the given model, and its runs. Conditions: none. -/
import Derived.Test.YtemfbebfodagpaaBack
set_option linter.all false
set_option linter.unusedSectionVars false
namespace Go.Idl
open Go

theorem callI_ok {P : Program} {T : Tab} {call : CallF} (hp : ∀ f p, T.prim f = some p → PrimOk P T f) (hc : CallOk P call) {f : FuncId} {ts : List TypeId} {args : List DV} {h : Heap} {r : DV} {h' : Heap}
    {σ : Sg} {H : Im} {w : World} {rargs : List Value} (e : callI T call f ts args h = some (r, h')) (hr : RelM σ H h w) (ha : F2 (Vrel σ H) args rargs) :
    Does P (Yld σ H h w r h') ((callFunc f rargs.toArray).run P w) := by
  cases hpr : T.prim f with
  | some p =>
    refine hp f p hpr ts args h r h' σ H w rargs ?_ hr ha
    unfold callI at e ⊢
    rw [hpr] at e ⊢
    cases p with
    | fn g => exact e
    | clone => exact e
    | ident => exact e
  | none =>
    unfold callI at e
    rw [hpr] at e
    simp only at e
    split at e
    · -- with the arguments as they lie
      split at e
      · rename_i r1 hcall
        split at e
        · rename_i hs
          cases e
          have hr' : RelM (fun _ => none) (cellsOf w) [] w := ⟨by simp, by simp, by simp, fun b i v h => h, by simp⟩
          refine Does.mono ?_ (hc f _ [] r [] (fun _ => none) (cellsOf w) w rargs hcall hr' (f2_map (fun _ _ h => snapV_ok hr h) ha))
          rintro rv w' ⟨σ', H', p, hv⟩
          exact ⟨σ, H, Post.step hr p.same p.size (fun b hb => p.frame b hb (by rintro ⟨k, o, v, h1, _⟩; simp at h1)), scalarV_ok hs hv⟩
        · cases e
      · cases e
    · split at e
      · rename_i args1 h1 hpa
        obtain ⟨σ1, H1, p1, ha1⟩ := passArgs_ok args ts σ H h w rargs _ _ hpa hr ha
        obtain ⟨hn, _, hlt⟩ := reach_ok 1000 h1 [] (args1.flatMap DV.refs) (by simp)
        have hlt := hlt (by simp)
        generalize reach 1000 h1 [] (args1.flatMap DV.refs) = ks at hn hlt e
        split at e
        · rename_i r1 hh hcall
          cases e
          refine Does.mono ?_ (hc f _ (sub h1 ks) r1 hh (subσ σ1 ks) H1 w rargs hcall (p1.rel.sub hn) (f2_map (fun _ _ h => Vrel.ren subσ_idx h) ha1))
          rintro rv w' ⟨σ', H', p, hv⟩
          refine ⟨backσ σ1 σ' h1.length ks, H', p1.trans (call_back p1.rel hn hlt p), Vrel.ren (backF_ok (h := h1) hn hlt) hv⟩
        · cases e
      · cases e

def OutRel (σ : Sg) (H : Im) (v : Option DV) (rv : Value) : Prop := match v with | some dv => Vrel σ H dv rv | none => rv = undef
def Out (σ : Sg) (H : Im) (h : Heap) (w : World) (v : Option DV) (h' : Heap) (rv : Value) (w' : World) : Prop := ∃ σ' H', Post σ H h w σ' H' h' w' ∧ OutRel σ' H' v rv
theorem OpOk.does {P : Program} {σ : Sg} {H : Im} {h : Heap} {w : World} {s : Sem Next} {v : Option DV} {h' : Heap} (x : OpOk P σ H h w s v h') : Does P (Out σ H h w v h') (s.run P w) := by
  obtain ⟨nx, w', σ', H', hs, hp, hv⟩ := x
  rw [hs]
  cases v with
  | none => simp only at hv; subst hv; exact ⟨σ', H', hp, rfl⟩
  | some dv => obtain ⟨rv, rfl, hv⟩ := hv; exact ⟨σ', H', hp, hv⟩

structure CallsOk (P : Program) (T : Tab) : Prop extends TabOk P T where
  prim : ∀ f p, T.prim f = some p → PrimOk P T f

theorem mv_ok {P : Program} {T : Tab} (hT : TabTy P T) {σ : Sg} {H : Im} {h : Heap} {w : World} (r : RelM σ H h w) {k : Nat} {st : Bool} {t sz : Nat} {es : List (List D)} {v : Value} {n : Nat}
    (hk : h[k]? = some (.arr false st t sz es)) (hσ : σ k = some v) (hn : n ≤ es.length) :
    ∃ a cap, v = .slice a es.length cap ∧ es.length ≤ cap ∧ Post σ H h w (σ.set h.length (.slice a n cap)) H (h.set k .dead ++ [.arr false st t sz (es.take n)]) w := by
  rcases r.obj _ _ _ hk hσ with ⟨rfl, rfl⟩ | ⟨b, cap, c, lo, hi, rfl, hb, h1, h2, h3, h4, h5, h6, h7⟩
  · simp at hn
    subst hn
    refine ⟨none, 0, rfl, by simp, ?_⟩
    refine Post.move r k _ _ _ _ hk rfl hσ (.refl w) (Nat.le_refl _) (fun _ _ _ => rfl) (.refl H) (fun _ _ _ h => .inl h) (fun b i u _ h => r.imm b i u h) (by simp [blk]) (.inl ⟨rfl, by simp⟩) (by simp [blk])
  · refine ⟨_, cap, rfl, h2, ?_⟩
    have hheld := r.held k _ _ b hk rfl hσ rfl
    have hl : (es.take n).length = n := by simp; omega
    refine Post.move r k _ _ _ _ hk rfl hσ (.refl w) (Nat.le_refl _) (fun _ _ _ => rfl) (.refl H) (fun _ _ _ h => .inl h) (fun b i u _ h => r.imm b i u h) (by intro b' e; exact .inl e) ?_ ?_
    · refine .inr ⟨b, cap, c, lo, hi, by rw [hl], hb, h1, by omega, h3, fun e he => h4 e (List.mem_of_mem_take he), h5, ?_, ?_⟩
      · intro i e he j d hd
        have hlt := ltl_of_some he
        rw [List.getElem?_take_of_lt (by simp at hlt; omega)] at he
        exact h6 i e he j d hd
      · rcases h7 with h7 | h7 | h7
        · exact .inl h7
        · exact .inr (.inl h7)
        · simp at h7
    · intro b' e
      simp [blk] at e
      subst e
      exact hheld

theorem runOp_ok {P : Program} {T : Tab} {call : CallF} (hT : CallsOk P T) (hc : CallOk P call) {σ : Sg} {H : Im} {h : Heap} {w : World} (r : RelM σ H h w) {ρ : Opnd} {ρr : Operand → Value} (hρ : Ops σ H ρ ρr)
    {mv : Bool} {o : Oper} {v : Option DV} {h' : Heap} (e : runOp T call mv ρ h o = some (v, h')) : Does P (Out σ H h w v h') ((execOp ρr o).run P w) := by
  have hev : evalOp T ρ h o.op o.type = some (v, h') → Does P (Out σ H h w v h') ((execOp ρr o).run P w) := fun e => (evalOp_ok hT.toTabOk r hρ e).does
  have hTy := hT.toTabTy
  unfold runOp at e
  split at e
  · rename_i t x u hop
    split at e
    · split at e
      · rename_i it k un hit hx hu
        split at e
        · rename_i el st t' sz es hd hk
          split at e
          · rename_i ie hie
            split at e
            · rename_i hcond
              obtain ⟨hsz, h0, hle⟩ := hcond
              cases e
              have hp := Vrel.one.1 (hρ _ _ hx)
              obtain ⟨a, cap, hv, hcap, p⟩ := mv_ok hTy r (n := un.toNat) hk hp.1 (by omega)
              have hex : execOp ρr o = (do pure (.value (← Instr.sliceAt t (ρr x) none (some (ρr u)) none))) := by unfold execOp; simp only [hop]; rfl
              have hund : (underlying t).run P w = .ok (.slice el) w := by rw [(hTy.ty _ _ hit).underlying, hd]
              obtain ⟨ki, hki⟩ := intOf_rel hu (fun dv e => hρ _ _ e)
              have hrun : (Instr.sliceAt t (ρr x) none (some (ρr u)) none).run P w = .ok (.slice a un.toNat cap) w := by
                rw [hv, hki]
                have h1 : 0 ≤ un ∧ un ≤ (cap : Int) := by omega
                simp [Instr.sliceAt, Instr.slice, hund, Instr.sliceBounds, Instr.sliceBound, asIntOf, h1, (hTy.ty _ _ hie).sizeOf]
                cases a <;> simp [Addr.add]
              rw [hex]
              exact (OpOk.value hrun p ((Vrel.one (c := .arr h.length)).2 ⟨Sg.set_self _ _ _, rfl⟩)).does
            · cases e
          · cases e
        · cases e
      · cases e
    · exact hev e
  · rename_i c args ts hop
    split at e
    · rename_i f vs hf hvs
      split at e
      · rename_i r1 h1 hcall
        cases e
        have hpf := Vrel.one.1 (hρ _ _ hf)
        obtain ⟨z, hz⟩ : ∃ z, ρr c = z := ⟨_, rfl⟩
        rw [hz] at hpf
        cases hpf
        have hrun : (execOp ρr o).run P w = (callFunc f ((args.toList.map ρr).toArray)).run P w := by
          unfold execOp
          simp only [hop, resolve, hz, Deferred.ofValue, Sem.run_bind, Sem.run_pure, Result.andThen_ok, invoke]
          congr 2
          apply Array.toList_inj.1
          simp
        rw [hrun]
        exact (callI_ok hT.prim hc hcall r (evs_ok hTy r hρ _ _ hvs)).mono fun rv w' y => y
      · cases e
    · rename_i f l vs hf hvs
      split at e
      · rename_i r1 h1 hcall
        cases e
        have hpf := Vrel.one.1 (hρ _ _ hf)
        obtain ⟨z, hz⟩ : ∃ z, ρr c = z := ⟨_, rfl⟩
        rw [hz] at hpf
        obtain ⟨caps, rfl, hcaps⟩ := hpf
        have hrun : (execOp ρr o).run P w = (callFunc f ((args.toList.map ρr ++ caps.toList).toArray)).run P w := by
          unfold execOp
          simp only [hop, resolve, hz, Deferred.ofValue, Sem.run_bind, Sem.run_pure, Result.andThen_ok, invoke]
          congr 2
          apply Array.toList_inj.1
          simp
        rw [hrun]
        have hcv : F2 (Vrel σ H) (l.map fun (x : Nat × Nat) => DV.one (.ptr x.1 x.2)) caps.toList := f2_map (fun a b hab => Vrel.one.2 hab) hcaps
        exact (callI_ok hT.prim hc hcall r (f2_append (evs_ok hTy r hρ _ _ hvs) hcv)).mono fun rv w' y => y
      · cases e
    · cases e
  · exact hev e
end Go.Idl
