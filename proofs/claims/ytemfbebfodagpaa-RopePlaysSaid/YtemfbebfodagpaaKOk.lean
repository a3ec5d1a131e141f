/- Part of a proof that the laws of this seat return true: a machine over plain data (Idl) that is sound for the given model, and its runs. Conditions: none. -/
import Derived.Test.YtemfbebfodagpaaKDef
set_option linter.all false
set_option linter.unusedVariables false
set_option linter.unusedSimpArgs false
namespace Go.Idl
open Go

/-! The limit of all runs. -/
noncomputable def lim {α : Type} (p : α → Prop) : Option α := by
  classical exact if h : ∃ x, p x then some (Classical.choose h) else none
theorem lim_spec {α : Type} {p : α → Prop} {x : α} (e : lim p = some x) : p x := by
  unfold lim at e
  split at e
  · rename_i h
    cases e
    exact Classical.choose_spec h
  · cases e
theorem lim_eq {α : Type} {p : α → Prop} (hu : ∀ x y, p x → p y → x = y) {x : α} (h : p x) : lim p = some x := by
  unfold lim
  have hx : ∃ x, p x := ⟨x, h⟩
  rw [dif_pos hx]
  exact congrArg some (hu _ _ (Classical.choose_spec hx) h)

noncomputable def callω (T : Tab) (f : FuncId) (args : List DV) (h : Heap) : Option (DV × Heap) := lim fun r => ∃ n, runF T n f args h = some r
theorem callω_iff {T : Tab} {f : FuncId} {args : List DV} {h : Heap} {r : DV × Heap} : callω T f args h = some r ↔ ∃ n, runF T n f args h = some r := by
  constructor
  · exact fun e => lim_spec (p := fun r => ∃ n, runF T n f args h = some r) e
  · refine fun e => lim_eq (p := fun r => ∃ n, runF T n f args h = some r) ?_ e
    rintro x y ⟨n, hn⟩ ⟨m, hm⟩
    have h1 := runF_mono (Nat.le_max_left n m) hn
    have h2 := runF_mono (Nat.le_max_right n m) hm
    rw [h1] at h2
    exact Option.some.inj h2

def iter1 (body : St → Option (Ex × St)) (nrm : St → Option St) : Nat → St → Option (Ex × St)
  | 0, _ => none
  | n + 1, s =>
    match body s with
    | some (.normal, s2) => (match nrm s2 with | some s3 => iter1 body nrm n s3 | none => none)
    | r => r
theorem iter_of_iter1 {body : St → Option (Ex × St)} {nrm : St → Option St} : ∀ {n : Nat} {s s1 : St} {r : Ex × St}, nrm s = some s1 → iter1 body nrm n s1 = some r → iter body nrm n s = some r := by
  intro n
  induction n with
  | zero => intro s s1 r _ e; cases e
  | succ n ih =>
    intro s s1 r h e
    simp only [iter1, iter, h] at e ⊢
    split at e
    · rename_i s2 h2
      split at e
      · rename_i s3 h3
        rw [h2]
        exact ih h3 e
      · cases e
    · rename_i hno
      rw [e]
      split
      · rename_i heq
        cases heq
        exact absurd e (hno _)
      · rfl
theorem iter1_mono {body body' : St → Option (Ex × St)} {nrm : St → Option St} (hb : ∀ s r, body s = some r → body' s = some r) : ∀ (n m : Nat) (s : St) (r : Ex × St), n ≤ m →
    iter1 body nrm n s = some r → iter1 body' nrm m s = some r := by
  intro n
  induction n with
  | zero => intro m s r _ e; cases e
  | succ n ih =>
    intro m s r hm e
    obtain ⟨m, rfl⟩ : ∃ k, m = k + 1 := ⟨m - 1, by omega⟩
    simp only [iter1] at e ⊢
    split at e
    · rename_i s2 h2
      rw [hb _ _ h2]
      simp only
      split at e
      · rename_i s3 h3
        exact ih m _ _ (by omega) e
      · cases e
    · rename_i hno
      rw [hb _ _ e]
      split
      · rename_i heq
        cases heq
        exact absurd e (hno _)
      · rfl
def Lp (T : Tab) (F : Fr) (blk : Nat) (keys : List Nat) (a : Code) (s : St) (r : Ex × St) : Prop := ∃ n, iter1 (runCode T (runF T n) (F.up n) blk a) (norm F.m keys (F.fz blk)) n s = some r
noncomputable def lpω (T : Tab) (F : Fr) (blk : Nat) (keys : List Nat) (a : Code) (s : St) : Option (Ex × St) := lim (Lp T F blk keys a s)
theorem Lp.uniq {T : Tab} {F : Fr} {blk : Nat} {keys : List Nat} {a : Code} {s : St} {x y : Ex × St} (h1 : Lp T F blk keys a s x) (h2 : Lp T F blk keys a s y) : x = y := by
  obtain ⟨n, hn⟩ := h1
  obtain ⟨m, hm⟩ := h2
  have e1 := iter1_mono (fun s r h => runCode_mono (runF_mono1 n (max n m) (Nat.le_max_left n m)) (F := F) (Nat.le_max_left n m) a blk s r h) n (max n m) s x (Nat.le_max_left n m) hn
  have e2 := iter1_mono (fun s r h => runCode_mono (runF_mono1 m (max n m) (Nat.le_max_right n m)) (F := F) (Nat.le_max_right n m) a blk s r h) m (max n m) s y (Nat.le_max_right n m) hm
  rw [e1] at e2
  exact Option.some.inj e2
theorem lpω_iff {T : Tab} {F : Fr} {blk : Nat} {keys : List Nat} {a : Code} {s : St} {r : Ex × St} : lpω T F blk keys a s = some r ↔ Lp T F blk keys a s r :=
  ⟨fun e => lim_spec e, fun h => lim_eq (fun _ _ h1 h2 => h1.uniq h2) h⟩

/-- What is asked, answered. -/
noncomputable def fxR {R : Type} (T : Tab) (F : Fr) : Fx R where
  ptr d k := match d with | .ptr ds => k ds | _ => none
  load ds ss k := match Vs.of ss (ds.take ss.length) with | some v => k v | none => none
  el es i ss k := match es[i]? with | some e => (match Vs.of ss e with | some v => k v | none => none) | none => none
  elp es n k := if 0 ≤ n then (match es[n.toNat]? with | some e => k e | none => none) else none
  byte s n k := if 0 ≤ n then (match s[n.toNat]? with | some b => k b | none => none) else none
  chk b k := cond b k none
  isnil d a b := match d with | .nilp => a | .ptr _ => b | _ => none
  nn d k := match d with | .ptr _ => k | .fn _ => k | _ => none
  bytes es k := match bytesOfEs es with | some s => k s | none => none
  fop sub q a c k := match (if sub then q.format.sub a c else q.format.add a c) with | some x => k x | none => none
  f2i s k b kk := match (s.decode b).toInt .zero with | some n => if k.min ≤ n ∧ n ≤ k.max then kk n else none | none => none
  look kd es ss k1 k0 := match lookupD kd es with
    | some (some e) => (match Vs.of ss e with | some v => k1 v | none => none)
    | some none => k0
    | none => none
  upd k v es kk := match updateD k v es with | some es => kk es | none => none
  prim f args s kk := match T.prim f with
    | some (.fn g) => (match g args with | some r => (match s.of (r, []) with | some v => kk v | none => none) | none => none)
    | _ => none
  call f args h s kk := match callω T f args h with | some r => (match s.of r with | some v => kk v | none => none) | none => none
  lp blk a s kk := match lpω T F blk (s.env.map (·.1)) a s with | some (e, s) => kk e s | none => none

theorem Vs.ds_len : ∀ (ss : List Sh) (v : Vs ss), (Vs.ds ss v).length = ss.length := by
  intro ss
  induction ss with
  | nil => intro v; rfl
  | cons s ss ih => intro v; simp [Vs.ds, ih]

section
variable {R : Type} {T : Tab} {kt : KT} {F : Fr} {ρ : Opnd} {h : Heap} {ty : TypeId} {dflt : Option R} {k : Kont R} {x : R}

theorem mkK_ok {i : TI} {cs : List C} (e : mkK i cs h k = some x) : ∃ v, mkVal i cs = some v ∧ k (some v) h = some x := by
  unfold mkK at e
  split at e
  · rename_i v hv; exact ⟨v, hv, e⟩
  · cases e

theorem loadK_ok {t : TypeId} {p : Operand} (e : loadK T kt (fxR T F) ρ h t p dflt k = some x) : dflt = some x ∨ ∃ v h', evalOp T ρ h (.load t p) ty = some (v, h') ∧ k v h' = some x := by
  unfold loadK at e
  split at e
  · rename_i i d hi hp
    simp only [fxR] at e
    split at e
    · rename_i ds
      obtain ⟨hb, e⟩ := cond_some e
      have hb := Nat.eq_of_beq_eq_true hb
      split at e
      · rename_i v hv
        obtain ⟨r, hr, e⟩ := mkK_ok e
        refine .inr ⟨_, _, ?_, e⟩
        have h1 := Vs.of_eq hv
        rw [hb] at h1
        have h2 : (Vs.ds (kt.sh t) v).length = i.size := by rw [Vs.ds_len, hb]
        simp only [evalOp, hi, hp, loadC, h1, h2, if_true, hr]
      · cases e
    · cases e
  · rename_i i q s j off hi hp
    split at e
    · rename_i f st t' sz es hq
      obtain ⟨hb, e⟩ := cond_some e
      have hb := Nat.eq_of_beq_eq_true hb
      simp only [fxR] at e
      split at e
      · rename_i el hel
        split at e
        · rename_i v hv
          obtain ⟨hl, e⟩ := cond_some e
          have hl := Nat.eq_of_beq_eq_true hl
          obtain ⟨r, hr, e⟩ := mkK_ok e
          refine .inr ⟨_, _, ?_, e⟩
          have h1 := Vs.of_eq hv
          rw [← h1] at hl hr
          simp only [evalOp, hi, hp, loadC, hq, hel, hl, hb, and_self, if_true, hr]
        · cases e
      · cases e
    · cases e
  · exact .inl e

theorem storeK_ok {t : TypeId} {p y : Operand} (e : storeK T kt (fxR T F) ρ h t p y dflt k = some x) : dflt = some x ∨ ∃ v h', evalOp T ρ h (.store t p y) ty = some (v, h') ∧ k v h' = some x := by
  unfold storeK at e
  split at e
  · rename_i q s j off hp
    split at e
    · rename_i i a cs hi hy
      obtain ⟨hb, e⟩ := cond_some e
      have hb := Nat.eq_of_beq_eq_true hb
      split at e
      · rename_i ds h1 hf
        split at e
        · rename_i st t' sz es hq
          obtain ⟨hs, e⟩ := cond_some e
          have hs := Nat.eq_of_beq_eq_true hs
          simp only [fxR] at e
          split at e
          · rename_i el hel
            split at e
            · rename_i v hv
              obtain ⟨hl, e⟩ := cond_some e
              have hl := Nat.le_of_ble_eq_true hl
              have h1 := Vs.of_eq hv
              rw [← h1] at hl e
              refine .inr ⟨_, _, ?_, e⟩
              simp only [evalOp, hi, hp, hy, hb, if_true, storeC, hf, hq, hel, hl, hs, and_self]
            · cases e
          · cases e
        · cases e
      · cases e
    · cases e
  · exact .inl e

theorem idxK_ok {n : Int} {kk : Nat → Option R} : ∀ {m i : Nat}, idxK n i m kk = some x → ∃ j, n = Int.ofNat j ∧ i ≤ j ∧ j < i + m ∧ kk j = some x := by
  intro m
  induction m with
  | zero => intro i e; cases e
  | succ m ih =>
    intro i e
    simp only [idxK] at e
    cases hb : (n == Int.ofNat i) with
    | true => rw [hb] at e; exact ⟨i, eq_of_beq hb, Nat.le_refl _, by omega, e⟩
    | false =>
      rw [hb] at e
      obtain ⟨j, h1, h2, h3, h4⟩ := ih e
      exact ⟨j, h1, by omega, by omega, h4⟩

theorem indexAddrK_ok {t : TypeId} {y i : Operand} (e : indexAddrK T (fxR T F) ρ h t y i k = some x) : ∃ v h', evalOp T ρ h (.indexAddr t y i) ty = some (v, h') ∧ k v h' = some x := by
  unfold indexAddrK at e
  split at e
  · rename_i it n c hit hn hy
    split at e
    · rename_i len el hd
      split at e
      · rename_i ie hie
        split at e
        · rename_i q o
          obtain ⟨j, rfl, _, hj, e⟩ := idxK_ok e
          refine ⟨_, _, ?_, e⟩
          have h0 : (0 : Int) ≤ Int.ofNat j ∧ Int.ofNat j < (len : Int) := ⟨Int.natCast_nonneg j, by simpa using (Int.ofNat_lt.2 (by omega : j < len))⟩
          simp only [evalOp, hit, hn, hy, hd, hie, h0, and_self, if_true]
          rfl
        · rename_i q s j' o
          obtain ⟨j, rfl, _, hj, e⟩ := idxK_ok e
          refine ⟨_, _, ?_, e⟩
          have h0 : (0 : Int) ≤ Int.ofNat j ∧ Int.ofNat j < (len : Int) := ⟨Int.natCast_nonneg j, by simpa using (Int.ofNat_lt.2 (by omega : j < len))⟩
          simp only [evalOp, hit, hn, hy, hd, hie, h0, and_self, if_true]
          rfl
        · rename_i d
          simp only [fxR] at e
          split at e
          · rename_i ds
            obtain ⟨j, rfl, _, hj, e⟩ := idxK_ok e
            refine ⟨_, _, ?_, e⟩
            have h0 : (0 : Int) ≤ Int.ofNat j ∧ Int.ofNat j < (len : Int) := ⟨Int.natCast_nonneg j, by simpa using (Int.ofNat_lt.2 (by omega : j < len))⟩
            simp only [evalOp, hit, hn, hy, hd, hie, h0, and_self, if_true]
            rfl
          · cases e
        · cases e
      · cases e
    · rename_i el hd
      split at e
      · rename_i ie hie
        split at e
        · rename_i s es
          obtain ⟨hs, e⟩ := cond_some e
          have hs := Nat.eq_of_beq_eq_true hs
          simp only [fxR] at e
          split at e
          · rename_i h0
            split at e
            · rename_i el' hel
              refine ⟨_, _, ?_, e⟩
              simp only [evalOp, hit, hn, hy, hd, hie, hs, h0, and_self, if_true, hel]
            · cases e
          · cases e
        · rename_i q
          split at e
          · rename_i f st t' s es hq
            obtain ⟨hs, e⟩ := cond_some e
            have hs := Nat.eq_of_beq_eq_true hs
            simp only [fxR] at e
            obtain ⟨hc, e⟩ := cond_some e
            simp only [Bool.and_eq_true, decide_eq_true_eq] at hc
            refine ⟨_, _, ?_, e⟩
            simp only [evalOp, hit, hn, hy, hd, hie, hq, hs, hc, and_self, if_true]
          · cases e
        · cases e
      · cases e
    · cases e
  · cases e
theorem fieldAddrK_ok {s : TypeId} {y : Operand} {f : Nat} (e : fieldAddrK T (fxR T F) ρ h s y f dflt k = some x) : dflt = some x ∨ ∃ v h', evalOp T ρ h (.fieldAddr s y f) ty = some (v, h') ∧ k v h' = some x := by
  unfold fieldAddrK at e
  split at e
  · rename_i d hy
    split at e
    · rename_i is his
      split at e
      · rename_i fs hd
        split at e
        · rename_i fd hf
          split at e
          · rename_i it hit
            cases hz : Nat.beq it.size 0 with
            | true => rw [hz] at e; cases e
            | false =>
              rw [hz] at e
              have hz : ¬ it.size = 0 := fun h => by rw [h] at hz; cases hz
              simp only [fxR, cond_false] at e
              split at e
              · refine .inr ⟨_, _, ?_, e⟩
                simp only [evalOp, hy, his, hd, hf, hit, hz, if_false]
              · cases e
          · cases e
        · cases e
      · cases e
    · cases e
  · exact .inl e
theorem indexK_ok {t : TypeId} {y i : Operand} (e : indexK T (fxR T F) ρ h t y i k = some x) : ∃ v h', evalOp T ρ h (.index t y i) ty = some (v, h') ∧ k v h' = some x := by
  unfold indexK at e
  split at e
  · rename_i it n v hit hn hy
    split at e
    · rename_i hd
      split at e
      · rename_i s
        simp only [fxR] at e
        split at e
        · rename_i h0
          split at e
          · rename_i b hb
            refine ⟨_, _, ?_, e⟩
            simp only [evalOp, hit, hn, hy, hd, h0, if_true, hb]
          · cases e
        · cases e
      · cases e
    · rename_i len el hd
      split at e
      · rename_i cs
        split at e
        · rename_i ie hie
          obtain ⟨j, rfl, _, hj, e⟩ := idxK_ok e
          obtain ⟨r, hr, e⟩ := mkK_ok e
          refine ⟨_, _, ?_, e⟩
          have h0 : (0 : Int) ≤ Int.ofNat j ∧ Int.ofNat j < (len : Int) := ⟨Int.natCast_nonneg j, by simpa using (Int.ofNat_lt.2 (by omega : j < len))⟩
          simp only [evalOp, hit, hn, hy, hd, hie, h0, and_self, if_true, show (Int.ofNat j).toNat = j from rfl, hr]
        · cases e
      · cases e
    · cases e
  · cases e
theorem nilCheckK_ok {y : Operand} (e : nilCheckK (fxR T F) ρ h y dflt k = some x) : dflt = some x ∨ ∃ v h', evalOp T ρ h (.nilCheck y) ty = some (v, h') ∧ k v h' = some x := by
  unfold nilCheckK at e
  split at e
  · rename_i d hy
    simp only [fxR] at e
    split at e
    · exact .inr ⟨_, _, by simp only [evalOp, hy], e⟩
    · exact .inr ⟨_, _, by simp only [evalOp, hy], e⟩
    · cases e
  · exact .inl e

theorem fop_ok {sub : Bool} {q : FloatKind} {a c : Nat} {kk : Nat → Option R} (e : (fxR (R := R) T F).fop sub q a c kk = some x) : ∃ z, (if sub then q.format.sub a c else q.format.add a c) = some z ∧ kk z = some x := by
  simp only [fxR] at e
  split at e
  · rename_i z hz; exact ⟨z, hz, e⟩
  · cases e
theorem bytes_ok {es : List (List D)} {kk : List Nat → Option R} (e : (fxR (R := R) T F).bytes es kk = some x) : ∃ s, bytesOfEs es = some s ∧ kk s = some x := by
  simp only [fxR] at e
  split at e
  · rename_i z hz; exact ⟨z, hz, e⟩
  · cases e
theorem chk_ok {b : Bool} {kk : Option R} (e : (fxR (R := R) T F).chk b kk = some x) : b = true ∧ kk = some x := cond_some e

theorem nilK_ok {op : BinOp} {t : TypeId} {y : Operand} (hop : op = .eql ∨ op = .neq) (e : nilK T (fxR T F) ρ h op t y dflt k = some x) :
    dflt = some x ∨ ∃ d i, ρ y = some (.val false [.d d]) ∧ T.info t = some i ∧ i.eqk = [5] ∧ ((d = .nilp ∧ k (some (.dd (.bool (op == .eql)))) h = some x) ∨ ∃ ds, d = .ptr ds ∧ k (some (.dd (.bool (op == .neq)))) h = some x) := by
  unfold nilK at e
  split at e
  · rename_i d hy
    split at e
    · rename_i i hi
      split at e
      · rename_i h5
        refine .inr ⟨d, i, hy, hi, h5, ?_⟩
        rcases hop with rfl | rfl
        · simp only [fxR] at e
          split at e
          · exact .inl ⟨rfl, e⟩
          · exact .inr ⟨_, rfl, e⟩
          · cases e
        · simp only [fxR] at e
          split at e
          · exact .inl ⟨rfl, e⟩
          · exact .inr ⟨_, rfl, e⟩
          · cases e
      · exact .inl e
    · exact .inl e
  · exact .inl e
theorem isNilO_eq {y : Operand} (e : isNilO y = true) {T : Tab} {env : Env} : y = .const (.pointer none) := by
  unfold isNilO at e
  split at e
  · rfl
  · cases e
/-- Constants are read as they stand. -/
def ConstOk (ρ : Opnd) : Prop := ρ (.const (.pointer none)) = some (.dd .nilp)

theorem arithK_ok {op : BinOp} {y z : DV} {eqk : List Nat} (hop : isCmp op = false) (e : arithK (fxR T F) op y z h dflt k = some x) : dflt = some x ∨ ∃ v, binV eqk op y z = some v ∧ k (some v) h = some x := by
  unfold arithK at e
  split at e
  · rename_i q a q' b
    split at e
    · split at e
      · rename_i hq
        subst hq
        obtain ⟨hb, e⟩ := chk_ok e
        have hb : ¬ b = 0 := by simpa using hb
        exact .inr ⟨_, by simp [binV, plainC, plainD, binD, hb], e⟩
      · cases e
    · split at e
      · rename_i hq
        subst hq
        obtain ⟨hb, e⟩ := chk_ok e
        have hb : ¬ b = 0 := by simpa using hb
        exact .inr ⟨_, by simp [binV, plainC, plainD, binD, hb], e⟩
      · cases e
    · obtain ⟨hb, e⟩ := chk_ok e
      have hb : ¬ b < 0 := by simpa using hb
      exact .inr ⟨_, by simp [binV, plainC, plainD, binD, hb], e⟩
    · obtain ⟨hb, e⟩ := chk_ok e
      have hb : ¬ b < 0 := by simpa using hb
      exact .inr ⟨_, by simp [binV, plainC, plainD, binD, hb], e⟩
    · exact .inl e
  · rename_i a b
    split at e
    · obtain ⟨hb, e⟩ := chk_ok e
      have hb : a.length + b.length < maxStr := by simpa using hb
      exact .inr ⟨_, by simp [binV, plainC, plainD, binD, hb], e⟩
    · exact .inl e
  · rename_i q a b q' c d
    split at e
    · split at e
      · rename_i hq
        subst hq
        obtain ⟨u, hu, e⟩ := fop_ok e
        obtain ⟨v, hv, e⟩ := fop_ok e
        simp only [Bool.false_eq_true, if_false] at hu hv
        exact .inr ⟨_, by simp [binV, plainC, plainD, binD, hu, hv], e⟩
      · cases e
    · split at e
      · rename_i hq
        subst hq
        obtain ⟨u, hu, e⟩ := fop_ok e
        obtain ⟨v, hv, e⟩ := fop_ok e
        simp only [if_true] at hu hv
        exact .inr ⟨_, by simp [binV, plainC, plainD, binD, hu, hv], e⟩
      · cases e
    · exact .inl e
  · exact .inl e
theorem binK_ok {op : BinOp} {t : TypeId} {y z : Operand} {u : TypeId} (hc : ConstOk ρ) (e : binK T (fxR T F) ρ h op t y z dflt k = some x) : dflt = some x ∨ ∃ v h', evalOp T ρ h (.binOp op t y z u) ty = some (v, h') ∧ k v h' = some x := by
  unfold binK at e
  cases hop : isCmp op with
  | true =>
    rw [hop] at e
    simp only [cond_true] at e
    have hop2 : op = .eql ∨ op = .neq := by
      unfold isCmp at hop
      split at hop
      · exact .inl rfl
      · exact .inr rfl
      · cases hop
    cases hz : isNilO z with
    | true =>
      rw [hz] at e
      rcases nilK_ok hop2 e with e | ⟨d, i, hy, hi, h5, e2⟩
      · exact .inl e
      · have hz' := isNilO_eq hz (T := T) (env := [])
        subst hz'
        refine .inr ?_
        rcases e2 with ⟨rfl, e2⟩ | ⟨ds, rfl, e2⟩
        · refine ⟨_, _, ?_, e2⟩
          rcases hop2 with rfl | rfl <;> simp [evalOp, hy, show ρ (.const (.pointer none)) = some (.dd .nilp) from hc, hi, h5, binV, plainC, plainD, eqAgg, eqKs, eqCs, eqC]
        · refine ⟨_, _, ?_, e2⟩
          rcases hop2 with rfl | rfl <;> simp [evalOp, hy, show ρ (.const (.pointer none)) = some (.dd .nilp) from hc, hi, h5, binV, plainC, plainD, eqAgg, eqKs, eqCs, eqC]
    | false =>
      rw [hz] at e
      simp only [cond_false] at e
      cases hy0 : isNilO y with
      | true =>
        rw [hy0] at e
        rcases nilK_ok hop2 e with e | ⟨d, i, hy, hi, h5, e2⟩
        · exact .inl e
        · have hz' := isNilO_eq hy0 (T := T) (env := [])
          subst hz'
          refine .inr ?_
          rcases e2 with ⟨rfl, e2⟩ | ⟨ds, rfl, e2⟩
          · refine ⟨_, _, ?_, e2⟩
            rcases hop2 with rfl | rfl <;> simp [evalOp, hy, show ρ (.const (.pointer none)) = some (.dd .nilp) from hc, hi, h5, binV, plainC, plainD, eqAgg, eqKs, eqCs, eqC]
          · refine ⟨_, _, ?_, e2⟩
            rcases hop2 with rfl | rfl <;> simp [evalOp, hy, show ρ (.const (.pointer none)) = some (.dd .nilp) from hc, hi, h5, binV, plainC, plainD, eqAgg, eqKs, eqCs, eqC]
      | false => rw [hy0] at e; exact .inl e
  | false =>
    rw [hop] at e
    simp only [cond_false] at e
    split at e
    · rename_i a b ha hb
      rcases arithK_ok (eqk := match T.info t with | some i => i.eqk | none => []) hop e with e | ⟨v, hv, e⟩
      · exact .inl e
      · refine .inr ⟨_, _, ?_, e⟩
        simp only [evalOp, ha, hb]
        revert hv
        cases T.info t <;> (intro hv; simp only at hv ⊢; rw [hv])
    · cases e
theorem pickK_ok {c a b : Operand} (e : pickK ρ h c a b k = some x) : ∃ v h', evalOp T ρ h (.pick c a b) ty = some (v, h') ∧ k v h' = some x := by
  unfold pickK at e
  split at e
  · rename_i q hq
    cases q with
    | true =>
      simp only [cond_true] at e
      split at e
      · rename_i v hv; exact ⟨_, _, by simp only [evalOp, hq, hv], e⟩
      · cases e
    | false =>
      simp only [cond_false] at e
      split at e
      · rename_i v hv; exact ⟨_, _, by simp only [evalOp, hq, hv], e⟩
      · cases e
  · cases e
theorem convertK_ok {s t : TypeId} {y : Operand} (e : convertK T (fxR T F) ρ h s t y dflt k = some x) : dflt = some x ∨ ∃ v h', evalOp T ρ h (.convert s t y) ty = some (v, h') ∧ k v h' = some x := by
  unfold convertK at e
  split at e
  · rename_i is it c his hit hy
    split at e
    · rename_i b
      split at e
      · rename_i el hd
        split at e
        · rename_i ie hie
          split at e
          · rename_i hu
            obtain ⟨hb, e⟩ := chk_ok e
            have hb : b.length ≤ maxEls := by simpa using hb
            exact .inr ⟨_, _, by simp only [evalOp, his, hit, hy, hd, hie, hu, hb, if_true], e⟩
          · cases e
        · cases e
      · exact .inl e
    · rename_i es
      obtain ⟨hb, e⟩ := cond_some e
      obtain ⟨hl, e⟩ := chk_ok e
      obtain ⟨s, hs, e⟩ := bytes_ok e
      exact .inr ⟨_, _, by simp only [evalOp, his, hit, hy, hb, Bool.true_and, hl, if_true, hs], e⟩
    · rename_i q b
      split at e
      · rename_i kk hd
        simp only [fxR] at e
        split at e
        · rename_i n hn
          split at e
          · rename_i hr
            exact .inr ⟨_, _, by simp only [evalOp, his, hit, hy, hd, convD, hn, hr, and_self, if_true], e⟩
          · cases e
        · cases e
      · exact .inl e
    · rename_i q
      split at e
      · rename_i es hes
        obtain ⟨hb, e⟩ := cond_some e
        obtain ⟨hl, e⟩ := chk_ok e
        obtain ⟨s, hs, e⟩ := bytes_ok e
        exact .inr ⟨_, _, by simp only [evalOp, his, hit, hy, hes, hb, Bool.true_and, hl, if_true, hs], e⟩
      · cases e
    · exact .inl e
  · cases e
theorem makeSliceK_ok {t : TypeId} {l c : Operand} (e : makeSliceK T (fxR T F) ρ h t l c k = some x) : ∃ v h', evalOp T ρ h (.makeSlice t l c) ty = some (v, h') ∧ k v h' = some x := by
  unfold makeSliceK at e
  split at e
  · rename_i i hi
    split at e
    · rename_i el hd
      split at e
      · rename_i ie hie
        split at e
        · rename_i z n m hz hn hm
          obtain ⟨h1, e⟩ := cond_some e
          obtain ⟨h2, e⟩ := chk_ok e
          simp only [Bool.and_eq_true, decide_eq_true_eq, beq_iff_eq] at h1 h2
          have g1 := Nat.le_of_ble_eq_true h1.1.1
          have g2 := Nat.eq_of_beq_eq_true h1.1.2
          have g3 : 0 < ie.size := by have := h1.2; rwa [Nat.blt_eq] at this
          exact ⟨_, _, by simp only [evalOp, hi, hd, hie, hz, hn, hm]; rw [if_pos ⟨h2.1, h2.2.1, h2.2.2, g1, g2, g3⟩], e⟩
        · cases e
      · cases e
    · cases e
  · cases e
theorem evalOp_slice {t : TypeId} {y : Operand} {lo hi : Option Operand} : evalOp T ρ h (.slice t y lo hi none) ty =
    (match T.info t, ρ y with
    | some it, some v =>
      match lenV h v with
      | some n =>
        match bndOf ρ 0 lo, bndOf ρ n hi with
        | some l, some u =>
          if 0 ≤ l ∧ l ≤ u ∧ u ≤ n then
            match it.desc, v with
            | .string, .val false [.d (.str s)] => some (some (.dd (.str ((s.take u.toNat).drop l.toNat))), h)
            | .slice _, .val false [.d (.str _)] => none
            | .slice e, v =>
              match T.info e with
              | some ie =>
                match elemsOf h ie.size v with
                | some es =>
                  let h := match v with | .val _ [.arr k] => (match h[k]? with | some (.arr _ st t _ _) => h.set k (.arr true st t ie.size es) | _ => h) | _ => h
                  some (some (.dd (.slice ie.size ((es.take u.toNat).drop l.toNat))), h)
                | none => none
              | none => none
            | _, _ => none
          else none
        | _, _ => none
      | none => none
    | _, _ => none) := by cases lo <;> cases hi <;> rfl
theorem sliceK_ok {t : TypeId} {y : Operand} {lo hi : Option Operand} (e : sliceK T (fxR T F) ρ h t y lo hi k = some x) : ∃ v h', evalOp T ρ h (.slice t y lo hi none) ty = some (v, h') ∧ k v h' = some x := by
  unfold sliceK at e
  split at e
  · rename_i it v hit hy
    split at e
    · rename_i n hn
      split at e
      · rename_i l u hl hu
        obtain ⟨hb, e⟩ := chk_ok e
        simp only [Bool.and_eq_true, decide_eq_true_eq] at hb
        split at e
        · rename_i hd
          split at e
          · rename_i s
            refine ⟨_, _, ?_, e⟩
            simp only [evalOp_slice, hit, hy, hn, hl, hu, hb, and_self, if_true, hd]
          · cases e
        · rename_i el hd
          split at e
          · rename_i ie hie
            split at e
            · rename_i s es
              obtain ⟨hs, e⟩ := cond_some e
              have hs := Nat.eq_of_beq_eq_true hs
              refine ⟨_, _, ?_, e⟩
              simp only [evalOp_slice, hit, hy, hn, hl, hu, hb, and_self, if_true, hd, hie, elemsOf]
              simp only [hs, if_true]
            · rename_i q
              split at e
              · rename_i f st t' s es hq
                obtain ⟨hs, e⟩ := cond_some e
                have hs := Nat.eq_of_beq_eq_true hs
                refine ⟨_, _, ?_, e⟩
                simp only [evalOp_slice, hit, hy, hn, hl, hu, hb, and_self, if_true, hd, hie, elemsOf, hq]
                simp only [hs, if_true]
              · cases e
            · cases e
          · cases e
        · cases e
      · cases e
    · cases e
  · cases e
theorem appendK_ok {s y : Operand} {ts tx : TypeId} {args : Array Operand} {tys : Array TypeId} (ha : args.toList = [s, y]) (hts : tys.toList = [ts, tx]) (e : appendK T (fxR T F) ρ h s y ts tx k = some x) :
    ∃ v h', evalOp T ρ h (.call ⟨.builtin .append, args, tys⟩) ty = some (v, h') ∧ k v h' = some x := by
  unfold appendK at e
  split at e
  · rename_i it ix hit hix
    split at e
    · rename_i el hd
      obtain ⟨hsl, e⟩ := cond_some e
      split at e
      · rename_i ie xv hie hxv
        split at e
        · rename_i ys z hys hz
          obtain ⟨h1, e⟩ := cond_some e
          simp only [Bool.and_eq_true] at h1
          have g1 := Nat.le_of_ble_eq_true h1.1.1
          have g2 : 0 < ie.size := by have := h1.1.2; rwa [Nat.blt_eq] at this
          have g3 := Nat.eq_of_beq_eq_true h1.2
          split at e
          · rename_i q hs
            split at e
            · rename_i f st t sz es hq
              obtain ⟨h2, e⟩ := cond_some e
              obtain ⟨h3, e⟩ := chk_ok e
              simp only [Bool.and_eq_true, decide_eq_true_eq] at h2 h3
              have g4 := Nat.eq_of_beq_eq_true h2.1
              have g5 := Nat.eq_of_beq_eq_true h2.2
              refine ⟨_, _, ?_, e⟩
              simp only [evalOp, ha, hts, hit, hix, hd, hsl, if_true, hie, hxv, hys, hz, g1, g2, g3, and_self, hs, hq, g4, g5, h3]
            · cases e
          · rename_i hs
            obtain ⟨h3, e⟩ := chk_ok e
            simp only [decide_eq_true_eq] at h3
            refine ⟨_, _, ?_, e⟩
            simp only [evalOp, ha, hts, hit, hix, hd, hsl, if_true, hie, hxv, hys, hz, g1, g2, g3, and_self, hs, h3]
          · cases e
        · cases e
      · cases e
    · cases e
  · cases e
end
end Go.Idl
