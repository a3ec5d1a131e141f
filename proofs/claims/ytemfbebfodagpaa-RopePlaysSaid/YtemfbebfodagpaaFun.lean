/- Part of a proof that the laws of this seat return true: a machine over plain data (Idl) that is sound for the given model, and its runs. Conditions: none. -/
import Derived.Test.YtemfbebfodagpaaCtl
set_option linter.all false
set_option linter.unusedSectionVars false
namespace Go.Idl
open Go

theorem lmapM_ok {α β : Type} {P : Program} {w : World} {f : α → Sem β} : ∀ (l : List α) (m : List β), F2 (fun a b => (f a).run P w = .ok b w) l m → (l.mapM f).run P w = .ok m w := by
  intro l m h
  induction h with
  | nil => simp
  | cons a _ ih => rw [List.mapM_cons]; simp [a, ih]

theorem cell_run {P : Program} {σ : Sg} {H : Im} {h : Heap} {w : World} (r : RelM σ H h w) {t : TypeId} {i : TI} (ht : TyOk P t i) {p : C} {v : Value} {cs : List C} {dv : DV}
    (e : loadC h p i.size = some cs) (em : mkVal i cs = some dv) (hp : Crel σ H p v) : ∃ rv, (do loadVar t (← asAddr v) : Sem Value).run P w = .ok rv w ∧ Vrel σ H dv rv := by
  obtain ⟨b, o, vals, hv, _⟩ := loadC_ok r e hp
  obtain ⟨rv, h1, h2⟩ := load_run (P := P) r ht e em hp
  refine ⟨rv, ?_, h2⟩
  rw [hv] at h1 ⊢
  simpa [Instr.loadAt, Instr.sureAddr, asAddr] using h1

def resOf (tmps : Array Value) (x : ResultVar) : Sem Value := match x with
  | .tmp t => pure (tmps.getD t undef)
  | .cell a t => do loadVar t (← asAddr (tmps.getD a undef))
theorem resultsI_ok {P : Program} {T : Tab} (hT : TabTy P T) {σ : Sg} {H : Im} {w : World} {s : St} {a : Act} (r : RelM σ H s.heap w) (he : EnvOk σ H s.env a) : ∀ (rs : List ResultVar) (vs : List (Bool × List C)),
    resultsI T s rs = some vs → ∃ l, F2 (fun x v => (resOf a.tmps x).run P w = .ok v w) rs l ∧ F2 (Xrel σ H) vs l := by
  intro rs
  induction rs with
  | nil => intro vs e; simp [resultsI] at e; subst e; exact ⟨[], .nil, .nil⟩
  | cons x rs ih =>
    intro vs e
    simp only [resultsI] at e
    split at e
    · rename_i ag cs vs' h1 h2
      cases e
      obtain ⟨l, hl1, hl2⟩ := ih vs' h2
      cases x with
      | tmp t =>
        simp only at h1
        exact ⟨a.tmps.getD t undef :: l, .cons (by simp [resOf]) hl1, .cons (he t _ h1) hl2⟩
      | cell q t =>
        simp only at h1
        split at h1
        · rename_i i p hi hp
          split at h1
          · rename_i cs' hcs
            obtain ⟨rv, hr, hv⟩ := cell_run (P := P) r (hT.ty _ _ hi) hcs h1 (Vrel.one.1 (he q _ hp))
            exact ⟨rv :: l, .cons hr hl1, .cons hv hl2⟩
          · cases h1
        · cases h1
    · cases e

theorem results_run {P : Program} {fn : Func} {tmps : Array Value} {w : World} {l : List Value} (h : F2 (fun x v => (resOf tmps x).run P w = .ok v w) fn.results.toList l) :
    (results fn tmps).run P w = .ok (if l.length = 1 then l.headD undef else .tuple l.toArray) w := by
  have h1 := lmapM_ok _ _ h
  have h2 : (fn.results.mapM (resOf tmps)).run P w = .ok l.toArray w := by
    generalize fn.results = rs at h1
    obtain ⟨rs⟩ := rs
    show (Array.mapM (resOf tmps) rs.toArray).run P w = _
    rw [List.mapM_toArray]
    simp at h1
    simp [h1]
  have h3 : results fn tmps = (do
      let vs ← fn.results.mapM (resOf tmps)
      pure (if h : vs.size = 1 then vs[0] else .tuple vs)) := rfl
  rw [h3]
  simp only [Sem.run_bind, h2, Result.andThen_ok, Sem.run_pure]
  congr 1
  cases l with
  | nil => simp
  | cons x l =>
    cases l with
    | nil => simp
    | cons y l => simp

theorem frzVs_ok {w : World} : ∀ (vs : List (Bool × List C)) (σ : Sg) (H : Im) (h : Heap) (l : List Value) (vs' : List (Bool × List C)) (h' : Heap), frzVs h vs = some (vs', h') → RelM σ H h w → F2 (Xrel σ H) vs l →
    ∃ H', Post σ H h w σ H' h' w ∧ F2 (Xrel σ H') vs' l := by
  intro vs
  induction vs with
  | nil => intro σ H h l vs' h' e r hl; cases hl; simp [frzVs] at e; obtain ⟨rfl, rfl⟩ := e; exact ⟨H, .refl r, .nil⟩
  | cons x vs ih =>
    obtain ⟨ag, cs⟩ := x
    intro σ H h l vs' h' e r hl
    cases hl with
    | cons hx hl =>
      simp only [frzVs] at e
      split at e
      · rename_i ds h1 hf
        split at e
        · rename_i vs2 h2 hv
          cases e
          obtain ⟨H1, p1, hd⟩ := frzL_ok hf r (Vrel.cells (a := ag) hx)
          obtain ⟨H2, p2, hl2⟩ := ih σ H1 h1 _ _ _ hv p1.rel (forall₂_imp (fun _ _ y => y.mono (.refl σ) p1.hle) hl)
          refine ⟨H2, p1.trans p2, .cons (Xrel.mono (.refl σ) p2.hle ?_) hl2⟩
          simp only [Xrel] at hx ⊢
          cases ag with
          | true => obtain ⟨m, e, _⟩ := hx; rw [e] at hd; exact ⟨m, e, hd.crels⟩
          | false =>
            obtain ⟨c, rfl, hc⟩ := hx
            rw [oneCell_cells hc.one] at hd
            simp only [Bool.false_eq_true, if_false]
            cases hd with
            | cons h1 ht => cases ht; exact ⟨_, rfl, h1⟩
        · cases e
      · cases e

theorem nilC_ok {σ : Sg} {H : Im} {s : Nat × Nat} {c : C} {v : Value} (h : Crel σ H c v) : Crel σ H (nilC s c) v := by
  unfold nilC
  cases hn : (Nat.blt 0 s.2 && isNils c) with
  | false => exact h
  | true =>
    have hc0 : c = .d .nils := by
      simp only [Bool.and_eq_true] at hn
      have h2 := hn.2
      unfold isNils at h2
      split at h2
      · rfl
      · cases h2
    subst hc0
    cases h
    exact Drel.slice _ [] none 0 0 0 (fun _ _ => .pointer none) (by simp) (by simp) (by simp) (by simp) (by simp)
theorem nilCs_ok {σ : Sg} {H : Im} : ∀ {ss : List (Nat × Nat)} {cs : List C} {vs : List Value}, Crels σ H cs vs → Crels σ H (nilCs ss cs) vs := by
  intro ss
  induction ss with
  | nil => intro cs vs h; exact h
  | cons s ss ih =>
    intro cs vs h
    cases h with
    | nil => exact .nil
    | cons hc hcs => exact .cons (nilC_ok hc) (ih hcs)
theorem nilCs_one {ss : List (Nat × Nat)} {c : C} : nilCs ss [c] = [c] ∨ ∃ s, nilCs ss [c] = [nilC s c] := by
  cases ss with
  | nil => exact .inl rfl
  | cons s ss => exact .inr ⟨s, by cases ss <;> rfl⟩
theorem nilVs_ok {σ : Sg} {H : Im} : ∀ {sss : List (List (Nat × Nat))} {vs : List (Bool × List C)} {l : List Value}, F2 (Xrel σ H) vs l → F2 (Xrel σ H) (nilVs sss vs) l := by
  intro sss
  induction sss with
  | nil => intro vs l h; exact h
  | cons ss sss ih =>
    intro vs l h
    cases h with
    | nil => exact .nil
    | cons hx hl =>
      rename_i x v vs l
      obtain ⟨a, cs⟩ := x
      refine .cons ?_ (ih hl)
      simp only [Xrel] at hx ⊢
      cases a with
      | true => obtain ⟨m, e, h⟩ := hx; exact ⟨m, e, nilCs_ok h⟩
      | false =>
        obtain ⟨c, rfl, hc⟩ := hx
        simp only [Bool.false_eq_true, if_false]
        rcases nilCs_one (ss := ss) (c := c) with h | ⟨s, h⟩
        · exact ⟨c, h, hc⟩
        · exact ⟨_, h, nilC_ok hc⟩

theorem mkRes_ok {σ : Sg} {H : Im} {vs : List (Bool × List C)} {l : List Value} (h : F2 (Xrel σ H) vs l) : Vrel σ H (mkRes vs) (if l.length = 1 then l.headD undef else .tuple l.toArray) := by
  cases h with
  | nil => exact ⟨#[], rfl, .nil⟩
  | cons hx ht =>
    cases ht with
    | nil => exact hx
    | cons hy ht => exact ⟨(_ :: _ :: _ : List Value).toArray, by simp, F2.cons hx (.cons hy ht)⟩

theorem RelM.renSame {σ : Sg} {H : Im} {h : Heap} {w : World} {f : Nat → Option Nat} (hf : ∀ k j v, f k = some j → σ k = some v → σ j = some v) (r : RelM σ H h w) : RelM σ H (h.map (Ob.ren f)) w where
  obj := fun k o v h1 h2 => by
    rw [List.getElem?_map] at h1
    cases h3 : h[k]? with
    | none => rw [h3] at h1; cases h1
    | some o' => rw [h3] at h1; cases h1; exact (r.obj k o' v h3 h2).ren hf
  held := fun k o v b h1 h2 h3 h4 => by
    rw [List.getElem?_map] at h1
    cases h5 : h[k]? with
    | none => rw [h5] at h1; cases h1
    | some o' =>
      rw [h5] at h1
      cases h1
      rw [Ob.ren_live] at h2
      exact (r.held k o' v b h5 h2 h3 h4).ren
  dom := fun k hk => r.dom k (by simpa using hk)
  imm := r.imm
  sep := fun k k' o o' v v' b h1 h2 h3 h4 h5 h6 h7 h8 => by
    rw [List.getElem?_map] at h1 h2
    cases g1 : h[k]? with
    | none => rw [g1] at h1; cases h1
    | some p =>
      cases g2 : h[k']? with
      | none => rw [g2] at h2; cases h2
      | some p' =>
        rw [g1] at h1; rw [g2] at h2
        cases h1; cases h2
        rw [Ob.ren_live] at h3 h4
        exact r.sep k k' p p' v v' b g1 g2 h3 h4 h5 h6 h7 h8
theorem own_ren {σ : Sg} {h : Heap} {f : Nat → Option Nat} {b : Nat} (o : Own σ (h.map (Ob.ren f)) b) : Own σ h b := by
  obtain ⟨k, o, v, h1, h2, h3, h4⟩ := o
  rw [List.getElem?_map] at h1
  cases g1 : h[k]? with
  | none => rw [g1] at h1; cases h1
  | some p =>
    rw [g1] at h1
    cases h1
    rw [Ob.ren_live] at h2
    exact ⟨k, p, v, g1, h2, h3, h4⟩
theorem Post.renSame {σ0 σ : Sg} {H0 H : Im} {h0 h : Heap} {w0 w : World} {f : Nat → Option Nat} (hf : ∀ k j v, f k = some j → σ k = some v → σ j = some v) (p : Post σ0 H0 h0 w0 σ H h w) : Post σ0 H0 h0 w0 σ H (h.map (Ob.ren f)) w :=
  ⟨p.ext, p.old, p.hle, p.rel.renSame hf, by simpa using p.len, p.same, p.size, p.frame, fun b hb => p.fresh b (own_ren hb), p.grow⟩
theorem moveNone {σ : Sg} {H : Im} {h : Heap} {w : World} (r : RelM σ H h w) {k : Nat} (hk : σ k = none) (o : Ob) : Post σ H h w σ H (h.set k .dead ++ [o]) w := by
  have old : ∀ (j : Nat) (p : Ob) (v : Value), (h.set k .dead ++ [o])[j]? = some p → σ j = some v → h[j]? = some p := by
    intro j p v hj hv
    rcases getElem?_concat _ _ _ _ hj with ⟨hlt, hj⟩ | ⟨e, e'⟩
    · rcases getElem?_set_cases hj with ⟨e, _, _⟩ | ⟨hne, hj⟩
      · subst e; rw [hk] at hv; cases hv
      · exact hj
    · simp at e
      rw [e, r.dom _ (Nat.le_refl _)] at hv
      cases hv
  refine ⟨.refl σ, fun _ _ => rfl, .refl H, ⟨?_, ?_, ?_, r.imm, ?_⟩, by simp, .refl w, Nat.le_refl _, fun _ _ _ => rfl, ?_, fun _ _ _ h => .inl h⟩
  · intro j p v h1 h2; exact r.obj j p v (old j p v h1 h2) h2
  · intro j p v b h1 h2 h3 h4; exact r.held j p v b (old j p v h1 h3) h2 h3 h4
  · intro j hj; exact r.dom j (by simp at hj; omega)
  · intro i j o1 o2 v v' b h1 h2 h3 h4 h5 h6 h7 h8; exact r.sep i j o1 o2 v v' b (old _ _ _ h1 h5) (old _ _ _ h2 h6) h3 h4 h5 h6 h7 h8
  · rintro b ⟨j, p, v, h1, h2, h3, h4⟩; exact .inl ⟨j, p, v, old _ _ _ h1 h3, h2, h3, h4⟩
theorem moveOut_ok : ∀ (ks : List Nat) {σ : Sg} {H : Im} {h : Heap} {w : World} {vs : List (Bool × List C)} {l : List Value}, RelM σ H h w → F2 (Xrel σ H) vs l →
    ∃ σ', Post σ H h w σ' H (moveOut ks h vs).1 w ∧ F2 (Xrel σ' H) (moveOut ks h vs).2 l := by
  intro ks
  induction ks with
  | nil => intro σ H h w vs l r hv; exact ⟨σ, .refl r, hv⟩
  | cons k ks ih =>
    intro σ H h w vs l r hv
    simp only [moveOut]
    split
    · rename_i fz st t sz es hk
      have one : ∃ σ1, Post σ H h w σ1 H (h.set k .dead ++ [Ob.arr fz st t sz es]) w ∧ ∀ i j v, mvRef k h.length i = some j → σ1 i = some v → σ1 j = some v := by
        cases hσ : σ k with
        | none =>
          refine ⟨σ, moveNone r hσ _, ?_⟩
          intro i j v h1 h2
          unfold mvRef at h1
          split at h1
          · rename_i hb; rw [Nat.eq_of_beq_eq_true hb, hσ] at h2; cases h2
          · cases h1; exact h2
        | some v =>
          refine ⟨σ.set h.length v, Post.move r k _ _ v v hk rfl hσ (.refl w) (Nat.le_refl _) (fun _ _ _ => rfl) (.refl H) (fun _ _ _ h => .inl h) (fun b i u _ h => r.imm b i u h) (fun b h => .inl h) ?_ (fun b hb => r.held k _ v b hk rfl hσ hb), ?_⟩
          · exact (r.obj k _ v hk hσ).mono (Sg.sle_set (r.dom _ (Nat.le_refl _)) v) (.refl H)
          · intro i j u h1 h2
            unfold mvRef at h1
            split at h1
            · rename_i hb
              cases h1
              rw [Nat.eq_of_beq_eq_true hb] at h2
              have hlt := ltl_of_some hk
              have : (σ.set h.length v) k = some v := by unfold Sg.set; rw [if_neg (by omega)]; exact hσ
              rw [this] at h2
              rw [Sg.set_self]; exact h2
            · cases h1; exact h2
      obtain ⟨σ1, p, hf⟩ := one
      have q := p.renSame hf
      obtain ⟨σ2, p2, hv2⟩ := ih q.rel (f2_map (g := fun v : Bool × List C => (v.1, v.2.map (C.ren (mvRef k h.length)))) (fun _ _ x => Xrel.ren hf x) (forall₂_imp (fun _ _ x => Xrel.mono p.ext p.hle x) hv))
      exact ⟨σ2, q.trans p2, hv2⟩
    · exact ih r hv

/-- What is asked of the functions' table. -/
structure FunOk (P : Program) (T : Tab) : Prop where
  func : ∀ f fn, T.func f = some fn → P.funcs[f]? = some fn ∧ (fn.name == "runtime.NumGoroutine") = false
  code : ∀ f fn body, T.func f = some fn → fn.body = some body → codeOk body = true

theorem zip_get : ∀ (args : List DV) (k t : Nat) (dv : DV), Env.get ((args.zipIdx k).map fun x => (x.2, x.1)) t = some dv → k ≤ t ∧ args[t - k]? = some dv := by
  intro args
  induction args with
  | nil => intro k t dv e; simp [Env.get] at e
  | cons x args ih =>
    intro k t dv e
    simp only [List.zipIdx_cons, List.map_cons, Env.get] at e
    split at e
    · rename_i h; have := Nat.eq_of_beq_eq_true h; subst this; cases e; simp
    · obtain ⟨h1, h2⟩ := ih (k + 1) t dv e
      refine ⟨by omega, ?_⟩
      rw [show t - k = (t - (k + 1)) + 1 from by omega]
      simpa using h2

theorem runF_ok {P : Program} {T : Tab} (hT : RunOk P T) (hR : ReadOk T) (hF : FunOk P T) (hmix : P.follows Departure.mixedOrders = true) : ∀ n, CallOk P (runF T n) := by
  intro n
  induction n with
  | zero => intro f args h r h' σ H w rargs e; simp [runF] at e
  | succ n ih =>
    intro f args h r h' σ H w rargs e hr ha
    simp only [runF] at e
    split at e
    · rename_i fn hfn
      split at e
      · rename_i body hbody
        obtain ⟨hpf, hname⟩ := hF.func f fn hfn
        have hcall : (callFunc f rargs.toArray).run P w = .ok (.enter f rargs.toArray) w := by
          have hname' : ¬ fn.name = "runtime.NumGoroutine" := by simpa using hname
          simp [callFunc, hpf, hname', hbody]
        rw [hcall]
        show Calls P f rargs.toArray w _
        split at e
        · cases e
        · rename_i ex s hno hrun
          split at e
          · rename_i vs hvs
            refine calls_of_wp hpf hbody ?_
            have hs0 : StOk σ H h w fn.ntmps ⟨args.zipIdx.map fun x => (x.2, x.1), h⟩ { tmps := rargs.toArray ++ Array.replicate (fn.ntmps - rargs.toArray.size) undef, defers := [] } w := by
              refine ⟨σ, H, .refl hr, ?_, rfl, by simp; omega⟩
              intro t dv ht
              obtain ⟨_, h2⟩ := zip_get args 0 t dv ht
              obtain ⟨v, h3, h4⟩ := f2_get ha _ _ h2
              rw [Nat.sub_zero] at h3
              have hlt := ltl_of_some h3
              have : (rargs.toArray ++ Array.replicate (fn.ntmps - rargs.toArray.size) undef).getD t undef = v := by
                rw [Array.getD_eq_getD_getElem?, Array.getElem?_append_left (by simpa using hlt)]
                simp [h3]
              rw [this]; exact h4
            refine wp_mono (runCode_ok hT hR ih hmix hr (F := ⟨T.live f, T.fzAt f, T.mv f, n, h.length, fn.ntmps⟩) rfl body 0 _ ex s _ w (hF.code f fn body hfn hbody) hrun hs0) ?_
            rintro _ a' w' ⟨rfl, σ1, H1, p1, henv, hd, _⟩
            obtain ⟨l, hl1, hl2⟩ := resultsI_ok (P := P) hT.toTabTy p1.rel henv _ _ hvs
            have hres := results_run hl1
            have key : ∀ (vs2 : List (Bool × List C)) (h2 : Heap) (H2 : Im), Post σ1 H1 s.heap w' σ1 H2 h2 w' → F2 (Xrel σ1 H2) vs2 l →
                some ((mkRes (moveOut (T.mvout f) h2 vs2).2).ren (idx (reach 1000 (moveOut (T.mvout f) h2 vs2).1 (List.range h.length) (((moveOut (T.mvout f) h2 vs2).1.take h.length).flatMap Ob.refs ++ (moveOut (T.mvout f) h2 vs2).2.flatMap fun v => v.2.flatMap C.refs))), sub (moveOut (T.mvout f) h2 vs2).1 (reach 1000 (moveOut (T.mvout f) h2 vs2).1 (List.range h.length) (((moveOut (T.mvout f) h2 vs2).1.take h.length).flatMap Ob.refs ++ (moveOut (T.mvout f) h2 vs2).2.flatMap fun v => v.2.flatMap C.refs))) = some (r, h') →
                ∃ v, Ending.returned (if l.length = 1 then l.headD undef else .tuple l.toArray) = .returned v ∧ Yld σ H h w r h' v w' := by
              intro vs2 h2 H2 p2 hv2 e
              obtain ⟨σ3, p3, hv3⟩ := moveOut_ok (T.mvout f) p2.rel hv2
              generalize moveOut (T.mvout f) h2 vs2 = q at p3 hv3 e
              obtain ⟨h2, vs2⟩ := q
              obtain ⟨g1, ⟨m, g2⟩, _⟩ := reach_ok 1000 h2 (List.range h.length) ((h2.take h.length).flatMap Ob.refs ++ vs2.flatMap fun v => v.2.flatMap C.refs) List.nodup_range
              cases e
              exact ⟨_, rfl, _, H2, Post.gc hr.dom (p1.trans (p2.trans p3)) g1 g2, (mkRes_ok hv3).ren subσ_idx⟩
            have post : ∃ v, Ending.returned (if l.length = 1 then l.headD undef else .tuple l.toArray) = .returned v ∧ Yld σ H h w r h' v w' := by
              cases hk : T.keep f with
              | true =>
                rw [hk] at e
                simp only [if_true] at e
                exact key vs s.heap H1 (.refl p1.rel) hl2 e
              | false =>
                rw [hk] at e
                simp only [Bool.false_eq_true, if_false] at e
                split at e
                · rename_i vs2 h2 hf
                  split at hf
                  · rename_i vs3 h3 hf3
                    cases hf
                    obtain ⟨H2, p2, hv2⟩ := frzVs_ok vs σ1 H1 s.heap l _ _ hf3 p1.rel hl2
                    exact key _ h2 H2 p2 (nilVs_ok hv2) e
                  · cases hf
                · cases e
            cases ex with
            | normal => exact ⟨hd, _, hres, post⟩
            | ret => exact ⟨hd, _, hres, post⟩
            | exit id => exact (hno id rfl).elim
          · cases e
        · cases e
      · cases e
    · cases e
end Go.Idl
