/- Part of a proof that the laws of this seat return true: a machine over plain data (Idl) that is sound for the given model, and its runs. Conditions: none. -/
import Derived.Test.YtemfbebfodagpaaKOk
set_option linter.all false
set_option linter.unusedVariables false
set_option linter.unusedSimpArgs false
namespace Go.Idl
open Go
section
variable {R : Type} {T : Tab} {kt : KT} {F : Fr} {ρ : Opnd} {h : Heap} {ty : TypeId} {dflt : Option R} {k : Kont R} {x : R}

theorem mvK_ok {t : TypeId} {y u : Operand} {c : CallF} {o : Oper} (ho : o.op = .slice t y none (some u) none) (e : mvK T (fxR T F) ρ h t y u k = some x) :
    ∃ v h', runOp T c true ρ h o = some (v, h') ∧ k v h' = some x := by
  unfold mvK at e
  split at e
  · rename_i it q n hit hy hn
    split at e
    · rename_i el st t' sz es hd hq
      split at e
      · rename_i ie hie
        obtain ⟨hs, e⟩ := cond_some e
        have hs := Nat.eq_of_beq_eq_true hs
        obtain ⟨hc, e⟩ := chk_ok e
        simp only [Bool.and_eq_true, decide_eq_true_eq] at hc
        refine ⟨_, _, ?_, e⟩
        unfold runOp
        simp only [ho, if_true, hit, hy, hn, hd, hq, hie, hs, hc, and_self]
      · cases e
    · cases e
  · cases e

theorem look_ok {kd : List D} {es : List (List D × List D)} {ss : List Sh} {k1 : Vs ss → Option R} {k0 : Option R} (e : (fxR (R := R) T F).look kd es ss k1 k0 = some x) :
    (∃ v, lookupD kd es = some (some (Vs.ds ss v)) ∧ k1 v = some x) ∨ (lookupD kd es = some none ∧ k0 = some x) := by
  simp only [fxR] at e
  split at e
  · rename_i el hl
    split at e
    · rename_i v hv
      rw [Vs.of_eq hv] at hl
      exact .inl ⟨v, hl, e⟩
    · cases e
  · rename_i hl; exact .inr ⟨hl, e⟩
  · cases e
theorem upd_ok {a b : List D} {es : List (List D × List D)} {kk : List (List D × List D) → Option R} (e : (fxR (R := R) T F).upd a b es kk = some x) : ∃ es', updateD a b es = some es' ∧ kk es' = some x := by
  simp only [fxR] at e
  split at e
  · rename_i es' h; exact ⟨es', h, e⟩
  · cases e

theorem evalExt_lookup {t : TypeId} {m key : Operand} {ok : Bool} : evalExt T.info ρ h (.lookup t m key ok) ty =
    (match T.info t, ρ m, ρ key with
    | some it, some (.val false [mc]), some (.val _ kc) =>
      match it.desc with
      | .map _ e =>
        match T.info e with
        | some ie =>
          match frzL 20 h kc, ie.zero with
          | some (kd, h), some z =>
            match mapEs h mc with
            | some es =>
              match lookupD kd es with
              | some r =>
                match mkVal ie ((r.getD z).map .d) with
                | some (.val a cs) => some (some (if ok then .tup [(a, cs), (false, [.d (.bool r.isSome)])] else .val a cs), h)
                | _ => none
              | none => none
            | none => none
          | _, _ => none
        | none => none
      | _ => none
    | _, _, _ => none) := rfl
theorem lookK_ok (hx : T.ext = evalExt T.info) {t : TypeId} {m key : Operand} {ok : Bool} (e : lookK T kt (fxR T F) ρ h t m key ok k = some x) :
    ∃ v h', evalOp T ρ h (.lookup t m key ok) ty = some (v, h') ∧ k v h' = some x := by
  have hev : evalOp T ρ h (.lookup t m key ok) ty = evalExt T.info ρ h (.lookup t m key ok) ty := by simp only [evalOp, hx]
  rw [hev]
  unfold lookK at e
  split at e
  · rename_i it mc a kc hit hm hk
    split at e
    · rename_i kt' el hd
      split at e
      · rename_i ie hie
        split at e
        · rename_i kd h1 z hf hz
          split at e
          · rename_i es hes
            rcases look_ok e with ⟨v, hl, e⟩ | ⟨hl, e⟩
            · split at e
              · rename_i a' cs hmk
                refine ⟨_, _, ?_, e⟩
                simp only [evalExt_lookup, hit, hm, hk, hd, hie, hf, hz, hes, hl, Option.getD_some, hmk]
                cases ok <;> rfl
              · cases e
            · split at e
              · rename_i a' cs hmk
                refine ⟨_, _, ?_, e⟩
                simp only [evalExt_lookup, hit, hm, hk, hd, hie, hf, hz, hes, hl, Option.getD_none, hmk]
                cases ok <;> rfl
              · cases e
          · cases e
        · cases e
      · cases e
    · cases e
  · cases e
theorem updK_ok (hx : T.ext = evalExt T.info) {t : TypeId} {m key y : Operand} (e : updK (fxR T F) ρ h m key y k = some x) :
    ∃ v h', evalOp T ρ h (.mapUpdate t m key y) ty = some (v, h') ∧ k v h' = some x := by
  have hev : evalOp T ρ h (.mapUpdate t m key y) ty = evalExt T.info ρ h (.mapUpdate t m key y) ty := by simp only [evalOp, hx]
  rw [hev]
  unfold updK at e
  split at e
  · rename_i j a kc a' xc hm hk hy
    split at e
    · rename_i kd h1 hf
      split at e
      · rename_i vd h2 hf2
        split at e
        · rename_i ka va es hj
          obtain ⟨es', hu, e⟩ := upd_ok e
          refine ⟨_, _, ?_, e⟩
          simp only [evalExt, hm, hk, hy, hf, hf2, hj, hu]
        · cases e
      · cases e
    · cases e
  · cases e
theorem unsafeStrK_ok (hx : T.ext = evalExt T.info) {p n : Operand} {args : Array Operand} {tys : Array TypeId} (ha : args.toList = [p, n]) (e : unsafeStrK (fxR T F) ρ h p n k = some x) :
    ∃ v h', evalOp T ρ h (.call ⟨.builtin .unsafeString, args, tys⟩) ty = some (v, h') ∧ k v h' = some x := by
  have hev : evalOp T ρ h (.call ⟨.builtin .unsafeString, args, tys⟩) ty = evalExt T.info ρ h (.call ⟨.builtin .unsafeString, args, tys⟩) ty := by simp only [evalOp, hx]
  rw [hev]
  unfold unsafeStrK at e
  split at e
  · rename_i q m hp hn
    split at e
    · rename_i f t es hq
      obtain ⟨s, hs, e⟩ := bytes_ok e
      obtain ⟨hc, e⟩ := chk_ok e
      have hc := eq_of_beq hc
      refine ⟨_, _, ?_, e⟩
      simp only [evalExt, ha, hp, hn, hq, hs, hc]
      simp
    · cases e
  · cases e

theorem prim_ok {f : FuncId} {args : List DV} {s : RS} {kk : s.T → Option R} (e : (fxR (R := R) T F).prim f args s kk = some x) : ∃ g r v, T.prim f = some (.fn g) ∧ g args = some r ∧ (r, []) = s.mk' v ∧ kk v = some x := by
  simp only [fxR] at e
  split at e
  · rename_i g hg
    split at e
    · rename_i r hr
      split at e
      · rename_i v hv; exact ⟨g, r, v, hg, hr, RS.of_eq hv, e⟩
      · cases e
    · cases e
  · cases e
theorem call_ok {f : FuncId} {args : List DV} {s : RS} {kk : s.T → Option R} (e : (fxR (R := R) T F).call f args h s kk = some x) : ∃ n v, runF T n f args h = some (s.mk' v) ∧ kk v = some x := by
  simp only [fxR] at e
  split at e
  · rename_i r hr
    split at e
    · rename_i v hv
      obtain ⟨n, hn⟩ := callω_iff.1 hr
      exact ⟨n, v, by rw [hn, RS.of_eq hv], e⟩
    · cases e
  · cases e
theorem callIK_ok {f : FuncId} {ts : List TypeId} {args : List DV} {k : DV → Heap → Option R} (e : callIK T kt (fxR T F) f ts args h k = some x) :
    ∃ n v h', callI T (runF T n) f ts args h = some (v, h') ∧ k v h' = some x := by
  unfold callIK at e
  split at e
  · rename_i g hg
    split at e
    · rename_i args1 h1 hpa
      obtain ⟨ha, e⟩ := cond_some e
      obtain ⟨g', r, v, hg', hr, hmk, e⟩ := prim_ok e
      rw [hg] at hg'
      cases hg'
      obtain ⟨hd, e⟩ := cond_some e
      have hr' : resV (kt.sig f args1 []) v = r := by
        have := congrArg Prod.fst hmk
        exact this.symm
      rw [hr'] at hd e
      refine ⟨0, _, _, ?_, e⟩
      unfold callI
      simp only [hg, hpa, ha, if_true, hr, hd]
    · cases e
  · rename_i hg
    split at e
    · refine ⟨0, _, _, ?_, e⟩
      unfold callI
      simp only [hg]
    · cases e
  · rename_i hg
    split at e
    · rename_i sz es h1 hpa
      split at e
      · rename_i it hit
        split at e
        · rename_i el hd
          refine ⟨0, _, _, ?_, e⟩
          unfold callI
          simp only [hg, hpa, hit, hd]
        · cases e
      · cases e
    · cases e
  · rename_i hg
    cases hs : T.snap f with
    | true =>
      rw [hs] at e
      simp only [cond_true] at e
      obtain ⟨n, v, hrun, e⟩ := call_ok e
      split at e
      · rename_i r hmk
        obtain ⟨hsc, e⟩ := cond_some e
        refine ⟨n, _, _, ?_, e⟩
        unfold callI
        simp only [hg, hs, if_true, hrun, hmk, hsc]
      · cases e
    | false =>
      rw [hs] at e
      simp only [cond_false] at e
      split at e
      · rename_i args1 h1 hpa
        obtain ⟨n, v, hrun, e⟩ := call_ok e
        refine ⟨n, _, _, ?_, e⟩
        unfold callI
        simp only [hg, hs, Bool.false_eq_true, if_false, hpa, hrun]
      · cases e

theorem runOp_eval {c : CallF} {mv : Bool} {o : Oper} (h1 : ∀ f args ts, o.op ≠ .call ⟨.value f, args, ts⟩) (h2 : mv = false ∨ ∀ t y u, o.op ≠ .slice t y none (some u) none) : runOp T c mv ρ h o = evalOp T ρ h o.op o.type := by
  unfold runOp
  split
  · rename_i t y u heq
    rcases h2 with rfl | h2
    · simp only [Bool.false_eq_true, if_false, heq]
    · exact absurd heq (h2 _ _ _)
  · rename_i heq; exact absurd heq (h1 _ _ _)
  · rfl
theorem runF_zero : runF T 0 = fun _ _ _ => none := by funext f args h; rfl
theorem plainK_ok {mv : Bool} {o : Oper} (e : plainK T mv ρ h o k = some x) : ∃ n v h', runOp T (runF T n) mv ρ h o = some (v, h') ∧ k v h' = some x := by
  unfold plainK at e
  split at e
  · rename_i v h' hr
    exact ⟨0, v, h', by rw [runF_zero]; exact hr, e⟩
  · cases e
theorem callK_ok {c : Operand} {args : Array Operand} {ts : Array TypeId} {mv : Bool} {o : Oper} (ho : o.op = .call ⟨.value c, args, ts⟩) (e : callK T kt (fxR T F) ρ h c args ts k = some x) :
    ∃ n v h', runOp T (runF T n) mv ρ h o = some (v, h') ∧ k v h' = some x := by
  unfold callK at e
  split at e
  · rename_i f vs hc hv
    obtain ⟨n, v, h', hr, e⟩ := callIK_ok e
    refine ⟨n, _, _, ?_, e⟩
    unfold runOp
    simp only [ho, hc, hv, hr]
  · rename_i f l vs hc hv
    obtain ⟨n, v, h', hr, e⟩ := callIK_ok e
    refine ⟨n, _, _, ?_, e⟩
    unfold runOp
    simp only [ho, hc, hv]
    rw [hr]
  · cases e

theorem opK_ok (hx : kt.ext = true → T.ext = evalExt T.info) (hc : ConstOk ρ) {mv : Bool} {o : Oper} (e : opK T kt (fxR T F) mv ρ h o k = some x) :
    ∃ n v h', runOp T (runF T n) mv ρ h o = some (v, h') ∧ k v h' = some x := by
  have fin : ∀ op, o.op = op → (∀ f args ts, op ≠ .call ⟨.value f, args, ts⟩) → (mv = false ∨ ∀ t y u, op ≠ .slice t y none (some u) none) → (∃ v h', evalOp T ρ h op o.type = some (v, h') ∧ k v h' = some x) → ∃ n v h', runOp T (runF T n) mv ρ h o = some (v, h') ∧ k v h' = some x := by
    rintro op ho h1 h2 ⟨v, h', h3, h4⟩
    subst ho
    exact ⟨0, v, h', by rw [runOp_eval h1 h2]; exact h3, h4⟩
  have fin2 : ∀ op, o.op = op → (∀ f args ts, op ≠ .call ⟨.value f, args, ts⟩) → (mv = false ∨ ∀ t y u, op ≠ .slice t y none (some u) none) → (plainK T mv ρ h o k = some x ∨ ∃ v h', evalOp T ρ h op o.type = some (v, h') ∧ k v h' = some x) → ∃ n v h', runOp T (runF T n) mv ρ h o = some (v, h') ∧ k v h' = some x := by
    rintro op ho h1 h2 (h3 | h3)
    · exact plainK_ok h3
    · exact fin op ho h1 h2 h3
  unfold opK at e
  split at e
  · rename_i ho; exact fin2 _ ho (by intros; simp) (.inr (by intros; simp)) (loadK_ok e)
  · rename_i ho; exact fin2 _ ho (by intros; simp) (.inr (by intros; simp)) (storeK_ok e)
  · rename_i ho; exact fin _ ho (by intros; simp) (.inr (by intros; simp)) (indexAddrK_ok e)
  · rename_i ho; exact fin _ ho (by intros; simp) (.inr (by intros; simp)) (indexK_ok e)
  · rename_i ho; exact fin2 _ ho (by intros; simp) (.inr (by intros; simp)) (fieldAddrK_ok e)
  · rename_i ho; exact fin2 _ ho (by intros; simp) (.inr (by intros; simp)) (nilCheckK_ok e)
  · rename_i ho; exact fin2 _ ho (by intros; simp) (.inr (by intros; simp)) (binK_ok hc e)
  · rename_i ho; exact fin _ ho (by intros; simp) (.inr (by intros; simp)) (pickK_ok e)
  · rename_i ho; exact fin2 _ ho (by intros; simp) (.inr (by intros; simp)) (convertK_ok e)
  · rename_i ho; exact fin _ ho (by intros; simp) (.inr (by intros; simp)) (makeSliceK_ok e)
  · rename_i ho
    cases mv with
    | true => obtain ⟨v, h', h1, h2⟩ := mvK_ok (c := runF T 0) ho e; exact ⟨0, v, h', h1, h2⟩
    | false => exact fin _ ho (by intros; simp) (.inl rfl) (sliceK_ok e)
  · rename_i hno ho
    refine fin _ ho (by intros; simp) (.inr ?_) (sliceK_ok e)
    intro t y u heq
    cases heq
    exact hno _ rfl rfl
  · rename_i ho
    obtain ⟨hk, e⟩ := cond_some e
    exact fin _ ho (by intros; simp) (.inr (by intros; simp)) (lookK_ok (hx hk) e)
  · rename_i ho
    obtain ⟨hk, e⟩ := cond_some e
    exact fin _ ho (by intros; simp) (.inr (by intros; simp)) (updK_ok (hx hk) e)
  · rename_i args ts ho
    split at e
    · rename_i ha hts
      exact fin _ ho (by intros; simp) (.inr (by intros; simp)) (appendK_ok ha hts e)
    · cases e
  · rename_i args ts ho
    split at e
    · rename_i ha
      obtain ⟨hk, e⟩ := cond_some e
      exact fin _ ho (by intros; simp) (.inr (by intros; simp)) (unsafeStrK_ok (hx hk) ha e)
    · cases e
  · rename_i ho; exact callK_ok ho e
  · exact plainK_ok e

theorem constOk_opnd {env : Env} : ConstOk (opnd T env) := rfl
theorem constOk_opnd1 {env : Env} {n : Nat} {o : Oper} : ConstOk (opnd1 T env n o) := rfl

theorem partK_ok {br : List Nat} {dst : Option Nat} {v : Option DV} {kk : Option DV → Option R} (e : partK br dst v kk = some x) : kk v = some x := by
  unfold partK at e
  split at e
  · rename_i d
    cases hm : memN br d with
    | false => rw [hm] at e; exact e
    | true =>
      rw [hm] at e
      simp only [cond_true] at e
      split at e
      · rename_i b; cases b <;> exact e
      · exact e
  · exact e
theorem wantK_ok {ops : Array Oper} {env : Env} {o : Oper} {kk : Bool → Option R} (e : wantK ops env o kk = some x) : ∃ b, wantedI ops env o = some b ∧ kk b = some x := by
  unfold wantK at e
  unfold wantedI
  split at e
  · rename_i hg; exact ⟨true, by simp [hg], e⟩
  · rename_i j want hg
    simp only [hg]
    split at e
    · rename_i d hd
      simp only [hd]
      split at e
      · rename_i b hb
        simp only [hb]
        exact ⟨_, rfl, by cases b <;> exact e⟩
      · rename_i hb
        simp only [hb]
        exact ⟨_, rfl, e⟩
      · cases e
    · rename_i hd
      simp only [hd]
      exact ⟨_, rfl, e⟩

theorem runOpsK_ok (hx : kt.ext = true → T.ext = evalExt T.info) {mv : Bool} {nt : Nat} {br : List Nat} {ops : Array Oper} : ∀ (l : List Oper) (s : St) (kk : St → Option R),
    runOpsK T kt (fxR T F) mv nt br ops l s kk = some x → ∃ n s', runOps T (runF T n) mv nt ops l s = some s' ∧ kk s' = some x := by
  intro l
  induction l with
  | nil => intro s kk e; exact ⟨0, s, rfl, e⟩
  | cons o l ih =>
    intro s kk e
    simp only [runOpsK] at e
    obtain ⟨hd, e⟩ := cond_some e
    obtain ⟨b, hb, e⟩ := wantK_ok e
    cases b with
    | true =>
      simp only [cond_true] at e
      obtain ⟨n, v, h', hr, e⟩ := opK_ok hx constOk_opnd e
      have e := partK_ok e
      obtain ⟨m, s', hs, e⟩ := ih _ _ e
      refine ⟨max n m, s', ?_, e⟩
      simp only [runOps, hd, if_true, hb]
      rw [runOp_mono (runF_mono1 n (max n m) (Nat.le_max_left n m)) hr]
      exact runOps_mono (runF_mono1 m (max n m) (Nat.le_max_right n m)) _ _ _ hs
    | false =>
      simp only [cond_false] at e
      obtain ⟨m, s', hs, e⟩ := ih _ _ e
      exact ⟨m, s', by simp only [runOps, hd, if_true, hb]; exact hs, e⟩
theorem runDrawK_ok (hx : kt.ext = true → T.ext = evalExt T.info) {mv : Bool} {nt : Nat} {br : List Nat} {ops : Array Oper} : ∀ (l : List Oper) (before : List Nat) (i : Nat) (past : List Past) (s : St) (kk : St → Option R),
    runDrawK T kt (fxR T F) mv nt br ops before i l past s kk = some x → ∃ n s', runDraw T (runF T n) mv nt ops before i l past s = some s' ∧ kk s' = some x := by
  intro l
  induction l with
  | nil => intro before i past s kk e; exact ⟨0, s, rfl, e⟩
  | cons o l ih =>
    intro before i past s kk e
    simp only [runDrawK] at e
    obtain ⟨hd, e⟩ := cond_some e
    obtain ⟨b, hb, e⟩ := wantK_ok e
    cases b with
    | true =>
      simp only [cond_true] at e
      obtain ⟨ha, e⟩ := cond_some e
      obtain ⟨n, v, hm, hr, e⟩ := opK_ok hx constOk_opnd1 e
      obtain ⟨hl, e⟩ := cond_some e
      have e := partK_ok e
      obtain ⟨m, s', hs, e⟩ := ih _ _ _ _ _ e
      refine ⟨max n m, s', ?_, e⟩
      simp only [runDraw, hd, if_true, hb, ha]
      rw [runOp_mono (runF_mono1 n (max n m) (Nat.le_max_left n m)) hr]
      simp only [hl, if_true]
      exact runDraw_mono (runF_mono1 m (max n m) (Nat.le_max_right n m)) _ _ _ _ _ _ hs
    | false =>
      simp only [cond_false] at e
      obtain ⟨m, s', hs, e⟩ := ih _ _ _ _ _ e
      exact ⟨m, s', by simp only [runDraw, hd, if_true, hb]; exact hs, e⟩

theorem seqK_ok {f : St → Option R} {kk : Ex → St → Option R} {ex : Ex} {s : St} (e : seqK f kk ex s = some x) : (ex = .normal ∧ f s = some x) ∨ (ex ≠ .normal ∧ kk ex s = some x) := by
  cases ex with
  | normal => exact .inl ⟨rfl, e⟩
  | exit id => exact .inr ⟨by simp, e⟩
  | ret => exact .inr ⟨by simp, e⟩

theorem frzEnv_keys {fz : List Nat} : ∀ {e : Env} {h : Heap} {e' : Env} {h' : Heap}, frzEnv fz h e = some (e', h') → e'.map (·.1) = e.map (·.1) := by
  intro e
  induction e with
  | nil => intro h e' h' eq; simp [frzEnv] at eq; obtain ⟨rfl, rfl⟩ := eq; rfl
  | cons y e ih =>
    obtain ⟨t, v⟩ := y
    intro h e' h' eq
    simp only [frzEnv] at eq
    split at eq
    · split at eq
      · rename_i h1
        cases eq
        simp only [List.map_cons]
        rw [ih h1]
      · cases eq
    · cases eq
theorem get_key {t : Nat} : ∀ {e : Env}, t ∈ e.map (·.1) → ∃ v, e.get t = some v := by
  intro e
  induction e with
  | nil => intro h; simp at h
  | cons y e ih =>
    obtain ⟨k, v⟩ := y
    intro h
    simp only [Env.get]
    split
    · exact ⟨v, rfl⟩
    · rename_i hb
      simp only [List.map_cons, List.mem_cons] at h
      rcases h with rfl | h
      · exact absurd (Nat.beq_refl _) hb
      · exact ih h
theorem filterEnv_keys {e : Env} : ∀ {keys : List Nat}, (∀ t ∈ keys, ∃ v, e.get t = some v) → (filterEnv keys e).map (·.1) = keys := by
  intro keys
  induction keys with
  | nil => intro _; rfl
  | cons t keys ih =>
    intro h
    obtain ⟨v, hv⟩ := h t (by simp)
    have := ih (fun t ht => h t (by simp [ht]))
    simp only [filterEnv] at this ⊢
    rw [List.filterMap_cons]
    simp only [hv, List.map_cons, this]
theorem norm_keys {F : Fr} {blk : Nat} {s s1 : St} (e : normF F blk s = some s1) : s1.env.map (·.1) = s.env.map (·.1) := by
  unfold normF norm at e
  split at e
  · rename_i env h1 hf
    cases e
    simp only [List.map_map]
    have h2 := frzEnv_keys hf
    rw [filterEnv_keys (fun t ht => get_key ht)] at h2
    rw [← h2]
    rfl
  · cases e
theorem runK_ok (hx : kt.ext = true → T.ext = evalExt T.info) : ∀ (code : Code) (blk : Nat) (s : St) (kk : Ex → St → Option R),
    runK T kt (fxR T F) F blk code s kk = some x → ∃ n ex s', runCode T (runF T n) (F.up n) blk code s = some (ex, s') ∧ kk ex s' = some x := by
  intro code
  induction code with
  | skip => intro blk s kk e; exact ⟨0, _, _, rfl, e⟩
  | region i ops draw =>
    intro blk s kk e
    simp only [runK] at e
    cases draw with
    | true =>
      obtain ⟨n, s', h1, h2⟩ := runDrawK_ok hx _ _ _ _ _ _ e
      exact ⟨n, _, _, by simp only [runCode, if_true]; simp only [Fr.up]; rw [h1], h2⟩
    | false =>
      obtain ⟨n, s', h1, h2⟩ := runOpsK_ok hx _ _ _ e
      exact ⟨n, _, _, by simp only [runCode, Bool.false_eq_true, if_false]; simp only [Fr.up]; rw [h1], h2⟩
  | seq a b iha ihb =>
    intro blk s kk e
    simp only [runK] at e
    obtain ⟨n, ex, s1, h1, e⟩ := iha _ _ _ e
    rcases seqK_ok e with ⟨rfl, e⟩ | ⟨hne, e⟩
    · obtain ⟨m, ex, s2, h2, e⟩ := ihb _ _ _ e
      refine ⟨max n m, ex, s2, ?_, e⟩
      simp only [runCode]
      rw [runCode_mono (runF_mono1 n (max n m) (Nat.le_max_left n m)) (Nat.le_max_left n m) _ _ _ _ h1]
      exact runCode_mono (runF_mono1 m (max n m) (Nat.le_max_right n m)) (Nat.le_max_right n m) _ _ _ _ h2
    · refine ⟨n, ex, s1, ?_, e⟩
      simp only [runCode]
      rw [h1]
      cases ex <;> first | exact absurd rfl hne | rfl
  | cond c a b iha ihb =>
    intro blk s kk e
    simp only [runK] at e
    split at e
    · rename_i q hq
      cases q with
      | true => obtain ⟨n, ex, s1, h1, e⟩ := iha _ _ _ e; exact ⟨n, ex, s1, by simp only [runCode, hq, cond_true]; exact h1, e⟩
      | false => obtain ⟨n, ex, s1, h1, e⟩ := ihb _ _ _ e; exact ⟨n, ex, s1, by simp only [runCode, hq, cond_false]; exact h1, e⟩
    · cases e
  | block id a iha =>
    intro blk s kk e
    simp only [runK] at e
    obtain ⟨n, ex, s1, h1, e⟩ := iha _ _ _ e
    cases ex with
    | normal => exact ⟨n, .normal, s1, by simp only [runCode]; rw [h1], e⟩
    | ret => exact ⟨n, .ret, s1, by simp only [runCode]; rw [h1], e⟩
    | exit j =>
      simp only [blockK] at e
      cases hj : Nat.beq j id with
      | true => rw [hj] at e; exact ⟨n, .normal, s1, by simp only [runCode]; rw [h1]; simp only [hj, if_true], e⟩
      | false => rw [hj] at e; exact ⟨n, .exit j, s1, by simp only [runCode]; rw [h1]; simp only [hj, Bool.false_eq_true, if_false], e⟩
  | loop a iha =>
    intro blk s kk e
    simp only [runK] at e
    split at e
    · rename_i s1 hn
      simp only [fxR] at e
      split at e
      · rename_i ex s2 hl
        obtain ⟨n, hn2⟩ := lpω_iff.1 hl
        refine ⟨n, ex, s2, ?_, e⟩
        simp only [runCode]
        refine iter_of_iter1 hn ?_
        have hkeys : s1.env.map (·.1) = s.env.map (·.1) := norm_keys hn
        rw [hkeys] at hn2
        exact hn2
      · cases e
    · cases e
  | exit id => intro blk s kk e; exact ⟨0, _, _, rfl, e⟩
  | ret => intro blk s kk e; exact ⟨0, _, _, rfl, e⟩
  | _ => intro blk s kk e; cases e

/-- A function's run, as asked and answered, is its run. -/
theorem fnK_ok (hx : kt.ext = true → T.ext = evalExt T.info) {f : FuncId} {fn : Func} {args : List DV} {r : DV × Heap} (hf : T.func f = some fn) (hb : fn.body = some (bodyOf fn))
    (e : fnK T kt (fxR T (frOf T f fn h.length)) f fn args h = some r) : callω T f args h = some r := by
  unfold fnK at e
  obtain ⟨n, ex, s', h1, e⟩ := runK_ok hx _ _ _ _ e
  refine callω_iff.2 ⟨n + 1, ?_⟩
  simp only [runF, hf, hb]
  have h1' : runCode T (runF T n) ⟨T.live f, T.fzAt f, T.mv f, n, h.length, fn.ntmps⟩ 0 (bodyOf fn) ⟨args.zipIdx.map fun x => (x.2, x.1), h⟩ = some (ex, s') := h1
  rw [h1']
  cases ex with
  | exit id => cases e
  | normal => exact e
  | ret => exact e

/-- One round of a loop, and the rest of it. -/
theorem lp_round (hx : kt.ext = true → T.ext = evalExt T.info) {blk : Nat} {keys : List Nat} {a : Code} {s : St} {r : Ex × St}
    (e : runK T kt (fxR T F) F blk a s (roundK F blk keys (fun s => lpω T F blk keys a s) fun ex s => some (ex, s)) = some r) : lpω T F blk keys a s = some r := by
  obtain ⟨n, ex, s', h1, e⟩ := runK_ok hx _ _ _ _ e
  refine lpω_iff.2 ?_
  cases ex with
  | normal =>
    simp only [roundK] at e
    split at e
    · rename_i s3 h3
      obtain ⟨m, hm⟩ := lpω_iff.1 e
      refine ⟨max n m + 1, ?_⟩
      simp only [iter1]
      rw [runCode_mono (runF_mono1 n _ (by omega)) (show n ≤ max n m + 1 by omega) _ _ _ _ h1]
      simp only [h3]
      exact iter1_mono (fun s r h => runCode_mono (runF_mono1 m _ (by omega)) (F := F) (show m ≤ max n m + 1 by omega) a blk s r h) m (max n m) s3 r (by omega) hm
    · cases e
  | exit id =>
    cases e
    refine ⟨n + 1, ?_⟩
    simp only [iter1]
    rw [runCode_mono (runF_mono1 n _ (by omega)) (show n ≤ n + 1 by omega) _ _ _ _ h1]
  | ret =>
    cases e
    refine ⟨n + 1, ?_⟩
    simp only [iter1]
    rw [runCode_mono (runF_mono1 n _ (by omega)) (show n ≤ n + 1 by omega) _ _ _ _ h1]
noncomputable def lpk (T : Tab) (F : Fr) (blk : Nat) (keys : List Nat) (a : Code) (s : St) (kk : Ex → St → Option R) : Option R := match lpω T F blk keys a s with | some (e, s) => kk e s | none => none
theorem fx_lp {blk : Nat} {a : Code} {s : St} {kk : Ex → St → Option R} : (fxR T F).lp blk a s kk = lpk T F blk (s.env.map (·.1)) a s kk := rfl
theorem lpk_go (hx : kt.ext = true → T.ext = evalExt T.info) {blk : Nat} {keys : List Nat} {a : Code} {s : St} {kk : Ex → St → Option R}
    (e : runK T kt (fxR T F) F blk a s (roundK F blk keys (fun s => lpk T F blk keys a s kk) kk) = some x) : lpk T F blk keys a s kk = some x := by
  obtain ⟨n, ex, s', h1, e⟩ := runK_ok hx _ _ _ _ e
  have done : ∀ r, Lp T F blk keys a s r → kk r.1 r.2 = some x → lpk T F blk keys a s kk = some x := by
    intro r h1 h2
    unfold lpk
    rw [lpω_iff.2 h1]
    exact h2
  have once : ex ≠ .normal → kk ex s' = some x → lpk T F blk keys a s kk = some x := by
    intro hne h2
    refine done (ex, s') ⟨n + 1, ?_⟩ h2
    simp only [iter1]
    rw [runCode_mono (runF_mono1 n _ (by omega)) (show n ≤ n + 1 by omega) _ _ _ _ h1]
    cases ex <;> first | exact absurd rfl hne | rfl
  cases ex with
  | normal =>
    simp only [roundK] at e
    split at e
    · rename_i s3 h3
      unfold lpk at e
      split at e
      · rename_i ex4 s4 h4
        obtain ⟨m, hm⟩ := lpω_iff.1 h4
        refine done (ex4, s4) ⟨max n m + 1, ?_⟩ e
        simp only [iter1]
        rw [runCode_mono (runF_mono1 n _ (by omega)) (show n ≤ max n m + 1 by omega) _ _ _ _ h1]
        simp only [h3]
        exact iter1_mono (fun s r h => runCode_mono (runF_mono1 m _ (by omega)) (F := F) (show m ≤ max n m + 1 by omega) a blk s r h) m (max n m) s3 _ (by omega) hm
      · cases e
    · cases e
  | exit id => exact once (by simp) e
  | ret => exact once (by simp) e
/-- A loop that was run through, in its place. -/
theorem lp_eq {blk : Nat} {a : Code} {s s' : St} {ex : Ex} {kk : Ex → St → Option R} (e : lpω T F blk (s.env.map (·.1)) a s = some (ex, s')) : (fxR T F).lp blk a s kk = kk ex s' := by
  simp only [fxR, e]
end
end Go.Idl
