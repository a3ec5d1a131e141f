/- Part of a proof that the laws of this seat return true: a machine over plain data (Idl) that is sound for the given model, and its runs. Conditions: none. -/
import Derived.Test.YtemfbebfodagpaaRun
import Derived.Orders
set_option linter.all false
set_option linter.unusedSectionVars false
namespace Go.Idl
open Go

def EnvOk (σ : Sg) (H : Im) (env : Env) (a : Act) : Prop := ∀ t dv, env.get t = some dv → Vrel σ H dv (a.tmps.getD t undef)
def EnvL (σ : Sg) (H : Im) (env : Env) (a : Act) : Prop := ∀ x ∈ env, Vrel σ H x.2 (a.tmps.getD x.1 undef)
theorem get_mem : ∀ {env : Env} {t : Nat} {v : DV}, env.get t = some v → (t, v) ∈ env := by
  intro env
  induction env with
  | nil => intro t v e; simp [Env.get] at e
  | cons x env ih =>
    intro t v e
    obtain ⟨k, u⟩ := x
    simp only [Env.get] at e
    split at e
    · rename_i h; cases e; rw [Nat.eq_of_beq_eq_true h]; exact List.mem_cons_self
    · exact List.mem_cons_of_mem _ (ih e)
theorem EnvL.ok {σ : Sg} {H : Im} {env : Env} {a : Act} (h : EnvL σ H env a) : EnvOk σ H env a := fun _ _ e => h _ (get_mem e)
theorem EnvOk.mono {σ σ' : Sg} {H H' : Im} (hs : Sle σ σ') (hh : Hle H H') {env : Env} {a : Act} (h : EnvOk σ H env a) : EnvOk σ' H' env a := fun _ _ e => (h _ _ e).mono hs hh

def StOk (σ0 : Sg) (H0 : Im) (h0 : Heap) (w0 : World) (nt : Nat) (s : St) (a : Act) (w : World) : Prop :=
  ∃ σ H, Post σ0 H0 h0 w0 σ H s.heap w ∧ EnvOk σ H s.env a ∧ a.defers = [] ∧ nt ≤ a.tmps.size

structure RunOk (P : Program) (T : Tab) : Prop extends CallsOk P T where
  glob : ∀ g, T.glob g = none

theorem constDV_ok {σ : Sg} {H : Im} {v : Value} {dv : DV} (e : constDV v = some dv) : Vrel σ H dv v := by
  unfold constDV at e
  split at e
  · split at e
    · rename_i ds hds
      cases e
      exact ⟨_, rfl, (drels_of_const hds).crels⟩
    · cases e
  · split at e
    · rename_i d hd
      cases e
      exact Vrel.one.2 (drel_of_const hd)
    · cases e
theorem opnd_ok {P : Program} {T : Tab} (hT : RunOk P T) {σ : Sg} {H : Im} {env : Env} {a : Act} (he : EnvOk σ H env a) : Ops σ H (opnd T env) a.eval := by
  intro x dv e
  cases x with
  | tmp t => exact he t dv e
  | const v => exact constDV_ok e
  | global g => simp [opnd, hT.glob] at e
  | func f => simp only [opnd, Option.some.injEq] at e; subst e; exact Vrel.one.2 (.fn f)

theorem put_ok {σ : Sg} {H : Im} {env : Env} {a : Act} {nt : Nat} (he : EnvOk σ H env a) {dst : Option Nat} (hd : dstOk nt dst = true) (hn : nt ≤ a.tmps.size) {v : Option DV} {rv : Value} (hv : OutRel σ H v rv) :
    EnvOk σ H (putO env dst v) (a.put dst rv) := by
  cases dst with
  | none => exact he
  | some d =>
    have hlt : d < a.tmps.size := by
      have : d < nt := by simpa [dstOk, Nat.blt_eq] using hd
      omega
    intro t dv e
    simp only [putO, Env.get] at e
    simp only [Act.put]
    split at e
    · rename_i hk
      have hk := Nat.eq_of_beq_eq_true hk
      subst hk
      cases e
      rw [show (a.tmps.setIfInBounds d rv).getD d undef = rv from by simp [hlt]]
      cases v with
      | none => simp only [OutRel] at hv; subst hv; exact ⟨#[], rfl, .nil⟩
      | some dv => exact hv
    · rename_i hk
      have hne : d ≠ t := by rintro rfl; exact hk (Nat.beq_refl _)
      rw [show (a.tmps.setIfInBounds d rv).getD t undef = a.tmps.getD t undef from by simp [Array.getD_eq_getD_getElem?, Array.getElem?_setIfInBounds_ne hne]]
      exact he t dv e
theorem put_size (a : Act) (dst : Option Nat) (v : Value) : (a.put dst v).tmps.size = a.tmps.size := by cases dst <;> simp [Act.put]
theorem put_defers (a : Act) (dst : Option Nat) (v : Value) : (a.put dst v).defers = a.defers := by cases dst <;> simp [Act.put]

theorem wanted_ok {σ : Sg} {H : Im} {ops : Array Oper} {env : Env} {a : Act} (he : EnvOk σ H env a) {o : Oper} {b : Bool} (e : wantedI ops env o = some b) : Region.wanted o (yielded ops a.tmps) = b := by
  unfold wantedI at e
  unfold Region.wanted
  split at e
  · rename_i hg; cases e; rw [hg]
  · rename_i j want hg
    rw [hg]
    simp only
    split at e
    · rename_i d hd
      have hd' : (ops[j]?.bind fun x => x.dst) = some d := hd
      split at e
      · rename_i b' hb
        cases e
        have hp := Vrel.one.1 (he _ _ hb)
        have hv : a.tmps[d]? = some (.bool b') := by
          generalize hz : a.tmps.getD d undef = z at hp
          cases hp
          rw [Array.getD_eq_getD_getElem?] at hz
          cases hx : a.tmps[d]? with
          | none => rw [hx] at hz; simp [undef] at hz
          | some u => rw [hx] at hz; simp at hz; rw [hz]
        simp [yielded, hd', hv]
      · rename_i hb
        cases e
        obtain ⟨l, hl, _⟩ := he _ _ hb
        have hv : ∀ b, a.tmps[d]? ≠ some (.bool b) := by
          intro b hx
          rw [Array.getD_eq_getD_getElem?, hx] at hl
          simp at hl
        have : yielded ops a.tmps j = none := by
          unfold yielded
          rw [hd']
          simp only [Option.bind_some]
        rw [this]
        try rfl
      · cases e
    · rename_i hd
      have hd' : (ops[j]?.bind fun x => x.dst) = none := hd
      cases e
      simp [yielded, hd']

section
variable {P : Program} {T : Tab} (hT : RunOk P T) {call : CallF} (hc : CallOk P call) {σ0 : Sg} {H0 : Im} {h0 : Heap} {w0 : World} {nt : Nat}
include hT hc
theorem runOps_ok {mv : Bool} {ops : Array Oper} {Q : Exit → Act → World → Prop} : ∀ (rest : List Oper) (s s' : St) (a : Act) (w : World), runOps T call mv nt ops rest s = some s' → StOk σ0 H0 h0 w0 nt s a w →
    (∀ a' w', StOk σ0 H0 h0 w0 nt s' a' w' → Q .normal a' w') → wpList P ops Q rest a w := by
  intro rest
  induction rest with
  | nil => intro s s' a w e hs hq; simp [runOps] at e; subst e; rw [wpList.eq_1]; exact hq _ _ hs
  | cons o rest ih =>
    intro s s' a w e hs hq
    obtain ⟨σ, H, p, he, hd, hn⟩ := hs
    simp only [runOps] at e
    split at e
    · rename_i hdst
      rw [wpList.eq_2]
      split at e
      · rename_i hw
        rw [if_pos (wanted_ok he hw)]
        split at e
        · cases e
        · rename_i v h1 hop
          refine .inl ?_
          refine (runOp_ok hT.toCallsOk hc p.rel (opnd_ok hT he) hop).upon ?_
          rintro rv w' ⟨σ', H', q, hv⟩
          exact ih _ _ _ _ e ⟨σ', H', p.trans q, put_ok (he.mono q.ext q.hle) hdst hn hv, by rw [put_defers]; exact hd, by rw [put_size]; exact hn⟩ hq
      · rename_i hw
        rw [if_neg (by rw [wanted_ok he hw]; simp)]
        exact ih _ _ _ _ e ⟨σ, H, p, put_ok he hdst hn (v := none) rfl, by rw [put_defers]; exact hd, by rw [put_size]; exact hn⟩ hq
      · cases e
    · cases e
end
end Go.Idl
