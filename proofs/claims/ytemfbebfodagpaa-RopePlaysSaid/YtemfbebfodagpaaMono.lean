/- Part of a proof that the laws of this seat return true: a machine over plain data (Idl) that is sound for the given model, and its runs. Conditions: none. -/
import Derived.Test.YtemfbebfodagpaaEqTy
set_option linter.all false
set_option linter.unusedSectionVars false
namespace Go.Idl
open Go

/-- What one answers, the other answers too. -/
def CLe (c c' : CallF) : Prop := ∀ f args h r, c f args h = some r → c' f args h = some r

theorem callI_mono {T : Tab} {c c' : CallF} (hc : CLe c c') {f : FuncId} {ts : List TypeId} {args : List DV} {h : Heap} {r : DV × Heap}
    (e : callI T c f ts args h = some r) : callI T c' f ts args h = some r := by
  unfold callI at e ⊢
  cases hp : T.prim f with
  | some p =>
    rw [hp] at e
    cases p <;> exact e
  | none =>
    rw [hp] at e
    simp only at e ⊢
    split
    · rename_i hs
      rw [if_pos hs] at e
      split at e
      · rename_i r1 hcall
        rw [hc _ _ _ _ hcall]
        exact e
      · cases e
    · rename_i hs
      rw [if_neg hs] at e
      split at e
      · rename_i args1 h1 hpa
        split at e
        · rename_i r1 hh hcall
          rw [hc _ _ _ _ hcall]
          exact e
        · cases e
      · cases e

theorem runOp_mono {T : Tab} {c c' : CallF} (hc : CLe c c') {mv : Bool} {ρ : Opnd} {h : Heap} {o : Oper} {r : Option DV × Heap}
    (e : runOp T c mv ρ h o = some r) : runOp T c' mv ρ h o = some r := by
  unfold runOp at e ⊢
  split
  · rename_i heq
    simp only [heq] at e ⊢
    exact e
  · rename_i heq
    simp only [heq] at e
    split at e
    · rename_i f vs h1 h2
      split at e
      · rename_i v h3 hcall
        rw [callI_mono hc hcall]
        exact e
      · cases e
    · rename_i f l vs h1 h2
      split at e
      · rename_i v h3 hcall
        rw [callI_mono hc hcall]
        exact e
      · cases e
    · cases e
  · rename_i op h1 h2
    split at e
    · rename_i heq; exact absurd heq (h1 _ _ _)
    · rename_i heq; exact absurd heq (h2 _ _ _)
    · exact e

theorem runOps_mono {T : Tab} {c c' : CallF} (hc : CLe c c') {mv : Bool} {nt : Nat} {ops : Array Oper} : ∀ (l : List Oper) (s s' : St),
    runOps T c mv nt ops l s = some s' → runOps T c' mv nt ops l s = some s' := by
  intro l
  induction l with
  | nil => intro s s' e; exact e
  | cons o l ih =>
    intro s s' e
    simp only [runOps] at e ⊢
    split
    · rename_i hd
      rw [if_pos hd] at e
      split at e
      · split at e
        · cases e
        · rename_i v h hr
          rw [runOp_mono hc hr]
          exact ih _ _ e
      · exact ih _ _ e
      · cases e
    · rename_i hd
      rw [if_neg hd] at e
      cases e
theorem runDraw_mono {T : Tab} {c c' : CallF} (hc : CLe c c') {mv : Bool} {nt : Nat} {ops : Array Oper} : ∀ (l : List Oper) (before : List Nat) (i : Nat) (past : List Past) (s s' : St),
    runDraw T c mv nt ops before i l past s = some s' → runDraw T c' mv nt ops before i l past s = some s' := by
  intro l
  induction l with
  | nil => intro before i past s s' e; exact e
  | cons o l ih =>
    intro before i past s s' e
    simp only [runDraw] at e ⊢
    split
    · rename_i hd
      rw [if_pos hd] at e
      split at e
      · split at e
        · rename_i ha
          rw [if_pos ha]
          split at e
          · cases e
          · rename_i v h hr
            rw [runOp_mono hc hr]
            simp only
            split at e
            · rename_i hl
              rw [if_pos hl]
              exact ih _ _ _ _ _ e
            · cases e
        · cases e
      · exact ih _ _ _ _ _ e
      · cases e
    · rename_i hd
      rw [if_neg hd] at e
      cases e

theorem iter_mono {body body' : St → Option (Ex × St)} {nrm : St → Option St} (hb : ∀ s r, body s = some r → body' s = some r) : ∀ (n m : Nat) (s : St) (r : Ex × St), n ≤ m →
    iter body nrm n s = some r → iter body' nrm m s = some r := by
  intro n
  induction n with
  | zero => intro m s r _ e; cases e
  | succ n ih =>
    intro m s r hm e
    obtain ⟨m, rfl⟩ : ∃ k, m = k + 1 := ⟨m - 1, by omega⟩
    simp only [iter] at e ⊢
    split at e
    · rename_i s1 hn
      split at e
      · rename_i s2 h2
        rw [hb _ _ h2]
        exact ih m _ _ (by omega) e
      · rename_i hno
        rw [hb _ _ e]
        split
        · rename_i heq
          cases heq
          exact absurd e (hno _)
        · rfl
    · cases e

def Fr.up (F : Fr) (n : Nat) : Fr := { F with n := n }
theorem runCode_mono {T : Tab} {c c' : CallF} (hc : CLe c c') {F : Fr} {n m : Nat} (hnm : n ≤ m) : ∀ (code : Code) (blk : Nat) (s : St) (r : Ex × St),
    runCode T c (F.up n) blk code s = some r → runCode T c' (F.up m) blk code s = some r := by
  intro code
  induction code with
  | skip => intro blk s r e; simp only [runCode] at e ⊢; exact e
  | region i ops draw =>
    intro blk s r e
    simp only [runCode] at e ⊢
    split at e
    · rename_i s1 h1
      have : (if draw = true then runDraw T c' F.mv F.nt ops (Region.before ops).toList 0 ops.toList [] s else runOps T c' F.mv F.nt ops ops.toList s) = some s1 := by
        split
        · rename_i hd; rw [if_pos hd] at h1; exact runDraw_mono hc _ _ _ _ _ _ h1
        · rename_i hd; rw [if_neg hd] at h1; exact runOps_mono hc _ _ _ h1
      simp only [Fr.up] at this ⊢
      rw [this]
      exact e
    · cases e
  | seq a b iha ihb =>
    intro blk s r e
    simp only [runCode] at e ⊢
    split at e
    · rename_i s1 h1
      rw [iha _ _ _ h1]
      exact ihb _ _ _ e
    · rename_i hno
      rw [iha _ _ _ e]
      split
      · rename_i heq; cases heq; exact absurd e (hno _)
      · rfl
  | cond x a b iha ihb =>
    intro blk s r e
    simp only [runCode] at e ⊢
    split at e
    · rename_i v _
      cases v with
      | true => exact iha _ _ _ e
      | false => exact ihb _ _ _ e
    · cases e
  | block id a iha =>
    intro blk s r e
    simp only [runCode] at e ⊢
    split at e
    · rename_i h1
      rw [iha _ _ _ h1]
      exact e
    · rename_i hno
      rw [iha _ _ _ e]
      split
      · rename_i heq; cases heq; exact absurd e (hno _ _)
      · rfl
  | loop a iha =>
    intro blk s r e
    simp only [runCode] at e ⊢
    exact iter_mono (fun s r h => iha blk s r h) n m s r hnm e
  | exit id => intro blk s r e; simp only [runCode] at e ⊢; exact e
  | ret => intro blk s r e; simp only [runCode] at e ⊢; exact e
  | _ => intro blk s r e; simp [runCode] at e

theorem runF_mono1 {T : Tab} : ∀ (n m : Nat), n ≤ m → CLe (runF T n) (runF T m) := by
  intro n
  induction n with
  | zero => intro m _ f args h r e; simp [runF] at e
  | succ n ih =>
    intro m hm f args h r e
    obtain ⟨m, rfl⟩ : ∃ k, m = k + 1 := ⟨m - 1, by omega⟩
    have ih := ih m (by omega)
    simp only [runF] at e ⊢
    split at e
    · rename_i fn hfn
      split at e
      · rename_i body hb
        cases h1 : runCode T (runF T n) ⟨T.live f, T.fzAt f, T.mv f, n, h.length, fn.ntmps⟩ 0 body ⟨args.zipIdx.map fun x => (x.2, x.1), h⟩ with
        | none => rw [h1] at e; cases e
        | some q =>
          have := runCode_mono ih (F := ⟨T.live f, T.fzAt f, T.mv f, n, h.length, fn.ntmps⟩) (n := n) (m := m) (by omega) body 0 _ _ h1
          simp only [Fr.up] at this
          rw [this]
          rw [h1] at e
          exact e
      · cases e
    · cases e
theorem runF_mono {T : Tab} {n m : Nat} (h : n ≤ m) {f : FuncId} {args : List DV} {hp : Heap} {r : DV × Heap} (e : runF T n f args hp = some r) : runF T m f args hp = some r := runF_mono1 n m h _ _ _ _ e
end Go.Idl
