/-
  THE SHELL OF A PROOF OF 'Rows.RopePartsSaid' ('gloss/glosslaw3.RopeParts'), WRITTEN BY PROGRAM (proof-skeleton.mjs) off the guide's own print for that function. Not trusted: Lean checks it.
  YOURS ARE THE HOLES MARKED 'HOLE' (each bears 'sorry'). ALL ELSE IS THE GUIDE's TEMPLATE (howto/template/XProofs.lean) at this function's number and types: leave it.
-/
import Derived.Test.YtemfbebfodagpaaRopeL6
import Derived.Test.YtemfbebfodagpaaArgs
import Derived.Test.YtemfbebfodagpaaRows
import Derived.WalkKit
import Derived.ProofKit
import Derived.OpenShut
set_option linter.all false
namespace Go.Proofs.Ytemfbebfodagpaa.ropeParts
open Go
open Go.ChangeShapes Go.WideShapes Go.ChangeAt Go.RowKit
set_option linter.unusedVariables false      -- a walk need not use every 'w<i>' (that an integer argument fits its kind)

theorem own : ownKnob Try.prog.godebug = none := by kernel_rfl

/-! ### STEP 1: THE WALK: the Go text returns true. 'Grown w w'': the world has at most new blocks (Derived/RowKit3.lean). Part the cases AHEAD of 'go_enter' where a test parts the walk; take each callee by a contract of your own. -/
theorem typed3 {n : Nat} {ds : List Go.Idl.D} (h : Go.Idl.Typed Try.prog n 3 ds) : ∃ k, ds = TryI.eI k := by
  cases n with
  | zero => exact h.elim
  | succ n =>
    simp only [Go.Idl.Typed, show Try.prog.underlying 3 = some (.int .i64) from by kernel_rfl] at h
    exact h
theorem typed49 {n : Nat} {ds : List Go.Idl.D} (h : Go.Idl.Typed Try.prog n 49 ds) : ∃ keys, ds = [.slice 1 (TryI.eKs keys)] := by
  cases n with
  | zero => exact h.elim
  | succ n =>
    simp only [Go.Idl.Typed, show Try.prog.underlying 49 = some (.slice 3) from by kernel_rfl, show Try.prog.cellsOf 3 = 1 from by kernel_rfl] at h
    obtain ⟨es, rfl, h⟩ := h
    have : ∃ keys, es = TryI.eKs keys := by
      induction es with
      | nil => exact ⟨[], rfl⟩
      | cons e es ih =>
        obtain ⟨k, hk⟩ := typed3 (h e (by simp))
        obtain ⟨keys, hkeys⟩ := ih (fun x hx => h x (by simp [hx]))
        exact ⟨k :: keys, by rw [hk, hkeys]; rfl⟩
    obtain ⟨keys, rfl⟩ := this
    exact ⟨keys, rfl⟩
theorem walk {H : Type} {enc : TypeId × Value → H} {W : World} {a0 : Option Addr} {len cap : Nat} {d0 : DataW H} {p0 : List MemPlace} (h0 : DataW.Trod enc Try.prog W 0 (fun _ => true) true 49 (.slice a0 len cap) d0 p0) (a1 a2 : Int) :
    Calls Try.prog 6 #[.slice a0 len cap, .int .i64 a1, .int .i64 a2] W fun e w' => e = .returned (.bool true) ∧ Below W.heap.size W w' := by
  obtain ⟨fuel, hf⟩ := h0
  obtain ⟨ds, hd, ht, _⟩ := Go.Idl.trod_plain fuel 2 49 _ _ (by kernel_rfl) hf
  obtain ⟨keys, rfl⟩ := typed49 ht
  have hv : Go.Idl.Vrel (fun _ => none) (Go.Idl.cellsOf W) (.val false [.d (.slice 1 (TryI.eKs keys))]) (.slice a0 len cap) := by
    have hd' : Go.Idl.Drels (Go.Idl.cellsOf W) [.slice 1 (TryI.eKs keys)] [.slice a0 len cap] := hd
    cases hd' with
    | cons h _ => exact Go.Idl.Vrel.one.2 h
  exact Go.Idl.walkω2 TryI.runOk TryI.readOk TryI.funs TryI.mixed (fn := Try.f6) (by kernel_rfl) (by kernel_rfl) (TryI.parts keys a1 a2) W (.cons hv (.cons (Go.Idl.Vrel.one.2 (.int .i64 a1)) (.cons (Go.Idl.Vrel.one.2 (.int .i64 a2)) .nil)))

/-! ### THE ROW's STEP: WRITTEN OUT: LEAVE IT -/
set_option maxRecDepth 100000 in
theorem lifted (os : Os) (started : os.Started) (H : Type) (enc : TypeId × Value → H) :
    ReturnsInHanded {} Try.checked os 6 .any (Rows.ropePartsSpec.pre6 enc Try.prog Try.f6 Rows.ropePartsRow.domain false) (Rows.ropePartsSpec.post enc Try.prog Try.f6 false true false false) := by
  refine returnsInHanded_of_change (C := Try.checked) own started (by kernel_rfl) Try.func6
    (ChangeSpec.witness6 (enc := enc) (C := Try.checked) false ⟨#[], #[.slice none 0 0, .int .i64 0, .int .i64 0], []⟩ 8 (by kernel_rfl) (by kernel_rfl) (by kernel_rfl) (by kernel_rfl)) ?_
  intro W base args ds gs before hval0 hW hcnd _
  have hval : ∀ (j : Nat) t v, Try.f6.params[j]? = some t → args[j]? = some v → Value.okWide Try.prog W .any base t v := hval0
  have hW' := hW
  obtain ⟨p, q, hA0, hV, rfl, hfz, hnd⟩ := hW
  have hA : DataW.TrodAll enc Try.prog W 0 (fun _ => true) true Try.f6.params.toList args.toList ds p := hA0
  rw [Try.params6] at hA hval
  obtain ⟨v0, vs0, d0, ds0, p0, q0, hargs, rfl, rfl, h0, r0⟩ := trodAll_cons hA
  obtain ⟨v1, vs1, d1, ds1, p1, q1, rfl, rfl, rfl, h1, r1⟩ := trodAll_cons r0
  obtain ⟨v2, vs2, d2, ds2, p2, q2, rfl, rfl, rfl, h2, r2⟩ := trodAll_cons r1
  obtain ⟨rfl, rfl, rfl⟩ := trodAll_nil r2
  obtain rfl : args = #[v0, v1, v2] := by cases args; simp_all
  obtain ⟨rfl, rfl⟩ := trodVars_none hV
  obtain ⟨a1, rfl, rfl, rfl, w1⟩ := open_int Try.underlying3 (hval 1 3 v1 rfl rfl) h1
  obtain ⟨a2, rfl, rfl, rfl, w2⟩ := open_int Try.underlying3 (hval 2 3 v2 rfl rfl) h2
  obtain ⟨a0, len, cap, rfl⟩ := Go.WideShapes.okWide_slice Try.underlying49 (hval 0 49 v0 rfl rfl)
  clear hA0 hval0
  simp only [List.append_nil] at hW'
  refine (walk h0 a1 a2).mono fun e W' ⟨he, hg⟩ => ?_
  subst he
  have hlt : ∀ x ∈ p0, x.block < W.heap.size := fun x hx => hW'.lt x hx
  exact ⟨_, rfl, post_of_below (pa := p0 ++ ([] ++ ([] ++ []))) (pv := []) hW' hlt (fun _ _ _ => (trodAll_cons_mk (shut_bool Try.underlying4 _) trodAll_mk0))
    (fun sp hsp => trodAll_cons_mk (WideElems.Trod_stays (P := Try.prog) (by kernel_rfl) (by kernel_rfl) (of_decide_eq_true (by kernel_rfl)) h0 (fun x hx => hg.same (hlt x hx)) (fun x hx => hsp x hx)) (trodAll_cons_mk (shut_int Try.underlying3 w1) (trodAll_cons_mk (shut_int Try.underlying3 w2) trodAll_mk0))) (fun _ _ => rfl) (by simp)
    (hg.frame _) (fun _ h => hg.frozen h) (ok_one (by kernel_rfl) rfl (okWide_bool_mk Try.underlying4 _))⟩

theorem over : Rows.ropePartsRow.holds Try.pinned (OpenSpec.ofChange Rows.ropePartsSpec) :=
  OpenClaim.holds_of_wide 6 Try.f6 rfl rfl rfl rfl rfl rfl rfl ⟨rfl, rfl, rfl, rfl, rfl⟩ rfl rfl rfl rfl rfl (by kernel_rfl) Try.func6 (by kernel_rfl)
    (of_decide_eq_true (by kernel_rfl)) (by unfold Func.isWrapper; first | (rw [if_pos (by decide +kernel)]; kernel_rfl) | (rw [if_neg (by decide +kernel)]; exact ⟨rfl, rfl⟩))
    (fun os started H enc _ => lifted os started H enc)

/-- ████ THE STATEMENT ████ -/
theorem proved : Rows.RopePartsSaid :=
  over
end Go.Proofs.Ytemfbebfodagpaa.ropeParts
