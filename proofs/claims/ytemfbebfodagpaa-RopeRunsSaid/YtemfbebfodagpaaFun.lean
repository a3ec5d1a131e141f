/- Part of a proof that the laws of this seat return true: a machine over plain data (Idl) that is sound for the given model, and its runs. Conditions: none. -/
import Derived.Test.YtemfbebfodagpaaCtl
set_option linter.all false
set_option linter.unusedSectionVars false
namespace Go.Idl
open Go

theorem lmapM_ok {α β : Type} {P : Program} {w : World} {f : α → Sem β} : ∀ (l : List α) (m : List β), F2 (fun a b => (f a).run P w = .ok b w) l m → (l.mapM f).run P w = .ok m w := by
  intro l m h
  induction h with
  | nil => simp
  | cons a _ ih => rw [List.mapM_cons]; simp [a, ih]

theorem cell_run {P : Program} {σ : Sg} {H : Im} {h : Heap} {w : World} (r : RelM σ H h w) {t : TypeId} {i : TI} (ht : TyOk P t i) {p : C} {v : Value} {cs : List C} {dv : DV}
    (e : loadC h p i.size = some cs) (em : mkVal i cs = some dv) (hp : Crel σ H p v) : ∃ rv, (do loadVar t (← asAddr v) : Sem Value).run P w = .ok rv w ∧ Vrel σ H dv rv := by
  obtain ⟨b, o, vals, hv, _⟩ := loadC_ok r e hp
  obtain ⟨rv, h1, h2⟩ := load_run (P := P) r ht e em hp
  refine ⟨rv, ?_, h2⟩
  rw [hv] at h1 ⊢
  simpa [Instr.loadAt, Instr.sureAddr, asAddr] using h1

def resOf (tmps : Array Value) (x : ResultVar) : Sem Value := match x with
  | .tmp t => pure (tmps.getD t undef)
  | .cell a t => do loadVar t (← asAddr (tmps.getD a undef))
theorem resultsI_ok {P : Program} {T : Tab} (hT : TabTy P T) {σ : Sg} {H : Im} {w : World} {s : St} {a : Act} (r : RelM σ H s.heap w) (he : EnvOk σ H s.env a) : ∀ (rs : List ResultVar) (vs : List (Bool × List C)),
    resultsI T s rs = some vs → ∃ l, F2 (fun x v => (resOf a.tmps x).run P w = .ok v w) rs l ∧ F2 (Xrel σ H) vs l := by
  intro rs
  induction rs with
  | nil => intro vs e; simp [resultsI] at e; subst e; exact ⟨[], .nil, .nil⟩
  | cons x rs ih =>
    intro vs e
    simp only [resultsI] at e
    split at e
    · rename_i ag cs vs' h1 h2
      cases e
      obtain ⟨l, hl1, hl2⟩ := ih vs' h2
      cases x with
      | tmp t =>
        simp only at h1
        exact ⟨a.tmps.getD t undef :: l, .cons (by simp [resOf]) hl1, .cons (he t _ h1) hl2⟩
      | cell q t =>
        simp only at h1
        split at h1
        · rename_i i p hi hp
          split at h1
          · rename_i cs' hcs
            obtain ⟨rv, hr, hv⟩ := cell_run (P := P) r (hT.ty _ _ hi) hcs h1 (Vrel.one.1 (he q _ hp))
            exact ⟨rv :: l, .cons hr hl1, .cons hv hl2⟩
          · cases h1
        · cases h1
    · cases e

theorem results_run {P : Program} {fn : Func} {tmps : Array Value} {w : World} {l : List Value} (h : F2 (fun x v => (resOf tmps x).run P w = .ok v w) fn.results.toList l) :
    (results fn tmps).run P w = .ok (if l.length = 1 then l.headD undef else .tuple l.toArray) w := by
  have h1 := lmapM_ok _ _ h
  have h2 : (fn.results.mapM (resOf tmps)).run P w = .ok l.toArray w := by
    generalize fn.results = rs at h1
    obtain ⟨rs⟩ := rs
    show (Array.mapM (resOf tmps) rs.toArray).run P w = _
    rw [List.mapM_toArray]
    simp at h1
    simp [h1]
  have h3 : results fn tmps = (do
      let vs ← fn.results.mapM (resOf tmps)
      pure (if h : vs.size = 1 then vs[0] else .tuple vs)) := rfl
  rw [h3]
  simp only [Sem.run_bind, h2, Result.andThen_ok, Sem.run_pure]
  congr 1
  cases l with
  | nil => simp
  | cons x l =>
    cases l with
    | nil => simp
    | cons y l => simp

theorem frzVs_ok {w : World} : ∀ (vs : List (Bool × List C)) (σ : Sg) (H : Im) (h : Heap) (l : List Value) (vs' : List (Bool × List C)) (h' : Heap), frzVs h vs = some (vs', h') → RelM σ H h w → F2 (Xrel σ H) vs l →
    ∃ H', Post σ H h w σ H' h' w ∧ F2 (Xrel σ H') vs' l := by
  intro vs
  induction vs with
  | nil => intro σ H h l vs' h' e r hl; cases hl; simp [frzVs] at e; obtain ⟨rfl, rfl⟩ := e; exact ⟨H, .refl r, .nil⟩
  | cons x vs ih =>
    obtain ⟨ag, cs⟩ := x
    intro σ H h l vs' h' e r hl
    cases hl with
    | cons hx hl =>
      simp only [frzVs] at e
      split at e
      · rename_i ds h1 hf
        split at e
        · rename_i vs2 h2 hv
          cases e
          obtain ⟨H1, p1, hd⟩ := frzL_ok hf r (Vrel.cells (a := ag) hx)
          obtain ⟨H2, p2, hl2⟩ := ih σ H1 h1 _ _ _ hv p1.rel (forall₂_imp (fun _ _ y => y.mono (.refl σ) p1.hle) hl)
          refine ⟨H2, p1.trans p2, .cons (Xrel.mono (.refl σ) p2.hle ?_) hl2⟩
          simp only [Xrel] at hx ⊢
          cases ag with
          | true => obtain ⟨m, e, _⟩ := hx; rw [e] at hd; exact ⟨m, e, hd.crels⟩
          | false =>
            obtain ⟨c, rfl, hc⟩ := hx
            rw [oneCell_cells hc.one] at hd
            simp only [Bool.false_eq_true, if_false]
            cases hd with
            | cons h1 ht => cases ht; exact ⟨_, rfl, h1⟩
        · cases e
      · cases e

theorem mkRes_ok {σ : Sg} {H : Im} {vs : List (Bool × List C)} {l : List Value} (h : F2 (Xrel σ H) vs l) : Vrel σ H (mkRes vs) (if l.length = 1 then l.headD undef else .tuple l.toArray) := by
  cases h with
  | nil => exact ⟨#[], rfl, .nil⟩
  | cons hx ht =>
    cases ht with
    | nil => exact hx
    | cons hy ht => exact ⟨(_ :: _ :: _ : List Value).toArray, by simp, F2.cons hx (.cons hy ht)⟩

/-- What is asked of the functions' table. -/
structure FunOk (P : Program) (T : Tab) : Prop where
  func : ∀ f fn, T.func f = some fn → P.funcs[f]? = some fn ∧ (fn.name == "runtime.NumGoroutine") = false
  code : ∀ f fn body, T.func f = some fn → fn.body = some body → codeOk body = true

theorem zip_get : ∀ (args : List DV) (k t : Nat) (dv : DV), Env.get ((args.zipIdx k).map fun x => (x.2, x.1)) t = some dv → k ≤ t ∧ args[t - k]? = some dv := by
  intro args
  induction args with
  | nil => intro k t dv e; simp [Env.get] at e
  | cons x args ih =>
    intro k t dv e
    simp only [List.zipIdx_cons, List.map_cons, Env.get] at e
    split at e
    · rename_i h; have := Nat.eq_of_beq_eq_true h; subst this; cases e; simp
    · obtain ⟨h1, h2⟩ := ih (k + 1) t dv e
      refine ⟨by omega, ?_⟩
      rw [show t - k = (t - (k + 1)) + 1 from by omega]
      simpa using h2

theorem runF_ok {P : Program} {T : Tab} (hT : RunOk P T) (hR : ReadOk T) (hF : FunOk P T) (hmix : P.follows Departure.mixedOrders = true) : ∀ n, CallOk P (runF T n) := by
  intro n
  induction n with
  | zero => intro f args h r h' σ H w rargs e; simp [runF] at e
  | succ n ih =>
    intro f args h r h' σ H w rargs e hr ha
    simp only [runF] at e
    split at e
    · rename_i fn hfn
      split at e
      · rename_i body hbody
        obtain ⟨hpf, hname⟩ := hF.func f fn hfn
        have hcall : (callFunc f rargs.toArray).run P w = .ok (.enter f rargs.toArray) w := by
          have hname' : ¬ fn.name = "runtime.NumGoroutine" := by simpa using hname
          simp [callFunc, hpf, hname', hbody]
        rw [hcall]
        show Calls P f rargs.toArray w _
        split at e
        · cases e
        · rename_i ex s hno hrun
          split at e
          · rename_i vs hvs
            refine calls_of_wp hpf hbody ?_
            have hs0 : StOk σ H h w fn.ntmps ⟨args.zipIdx.map fun x => (x.2, x.1), h⟩ { tmps := rargs.toArray ++ Array.replicate (fn.ntmps - rargs.toArray.size) undef, defers := [] } w := by
              refine ⟨σ, H, .refl hr, ?_, rfl, by simp; omega⟩
              intro t dv ht
              obtain ⟨_, h2⟩ := zip_get args 0 t dv ht
              obtain ⟨v, h3, h4⟩ := f2_get ha _ _ h2
              rw [Nat.sub_zero] at h3
              have hlt := ltl_of_some h3
              have : (rargs.toArray ++ Array.replicate (fn.ntmps - rargs.toArray.size) undef).getD t undef = v := by
                rw [Array.getD_eq_getD_getElem?, Array.getElem?_append_left (by simpa using hlt)]
                simp [h3]
              rw [this]; exact h4
            refine wp_mono (runCode_ok hT hR ih hmix hr (F := ⟨T.live f, T.fzAt f, T.mv f, n, h.length, fn.ntmps⟩) rfl body 0 _ ex s _ w (hF.code f fn body hfn hbody) hrun hs0) ?_
            rintro _ a' w' ⟨rfl, σ1, H1, p1, henv, hd, _⟩
            obtain ⟨l, hl1, hl2⟩ := resultsI_ok (P := P) hT.toTabTy p1.rel henv _ _ hvs
            have hres := results_run hl1
            have key : ∀ (vs2 : List (Bool × List C)) (h2 : Heap) (H2 : Im), Post σ1 H1 s.heap w' σ1 H2 h2 w' → F2 (Xrel σ1 H2) vs2 l →
                some ((mkRes vs2).ren (idx (reach 1000 h2 (List.range h.length) ((h2.take h.length).flatMap Ob.refs ++ vs2.flatMap fun v => v.2.flatMap C.refs))), sub h2 (reach 1000 h2 (List.range h.length) ((h2.take h.length).flatMap Ob.refs ++ vs2.flatMap fun v => v.2.flatMap C.refs))) = some (r, h') →
                ∃ v, Ending.returned (if l.length = 1 then l.headD undef else .tuple l.toArray) = .returned v ∧ Yld σ H h w r h' v w' := by
              intro vs2 h2 H2 p2 hv2 e
              obtain ⟨g1, ⟨m, g2⟩, _⟩ := reach_ok 1000 h2 (List.range h.length) ((h2.take h.length).flatMap Ob.refs ++ vs2.flatMap fun v => v.2.flatMap C.refs) List.nodup_range
              cases e
              exact ⟨_, rfl, _, H2, Post.gc hr.dom (p1.trans p2) g1 g2, (mkRes_ok hv2).ren subσ_idx⟩
            have post : ∃ v, Ending.returned (if l.length = 1 then l.headD undef else .tuple l.toArray) = .returned v ∧ Yld σ H h w r h' v w' := by
              cases hk : T.keep f with
              | true =>
                rw [hk] at e
                simp only [if_true] at e
                exact key vs s.heap H1 (.refl p1.rel) hl2 e
              | false =>
                rw [hk] at e
                simp only [Bool.false_eq_true, if_false] at e
                split at e
                · rename_i vs2 h2 hf
                  obtain ⟨H2, p2, hv2⟩ := frzVs_ok vs σ1 H1 s.heap l _ _ hf p1.rel hl2
                  exact key vs2 h2 H2 p2 hv2 e
                · cases e
            cases ex with
            | normal => exact ⟨hd, _, hres, post⟩
            | ret => exact ⟨hd, _, hres, post⟩
            | exit id => exact (hno id rfl).elim
          · cases e
        · cases e
      · cases e
    · cases e
end Go.Idl
