/-
  THE SHELL OF A PROOF OF 'Rows.RopePlaysSaid' ('gloss/glosslaw3.RopePlays'), WRITTEN BY PROGRAM (proof-skeleton.mjs) off the guide's own print for that function. Not trusted: Lean checks it.
  YOURS ARE THE HOLES MARKED 'HOLE' (each bears 'sorry'). ALL ELSE IS THE GUIDE's TEMPLATE (howto/template/XProofs.lean) at this function's number and types: leave it.
-/
import Derived.Test.YtemfbebfodagpaaRopeL5
import Derived.Test.YtemfbebfodagpaaArgs
import Derived.Test.YtemfbebfodagpaaRows
import Derived.WalkKit
import Derived.ProofKit
import Derived.OpenShut
set_option linter.all false
namespace Go.Proofs.Ytemfbebfodagpaa.ropePlays
open Go
open Go.ChangeShapes Go.WideShapes Go.ChangeAt Go.RowKit
set_option linter.unusedVariables false      -- a walk need not use every 'w<i>' (that an integer argument fits its kind)

theorem own : ownKnob Try.prog.godebug = none := by kernel_rfl

/-! ### STEP 1: THE WALK: the Go text returns true. 'Grown w w'': the world has at most new blocks (Derived/RowKit3.lean). Part the cases AHEAD of 'go_enter' where a test parts the walk; take each callee by a contract of your own. -/
theorem typed3 {n : Nat} {ds : List Go.Idl.D} (h : Go.Idl.Typed Try.prog n 3 ds) : ∃ k, ds = [.int .i64 k] := by
  cases n with
  | zero => exact h.elim
  | succ n =>
    simp only [Go.Idl.Typed, show Try.prog.underlying 3 = some (.int .i64) from by kernel_rfl] at h
    exact h
theorem typed46 {n : Nat} {ds : List Go.Idl.D} (h : Go.Idl.Typed Try.prog n 46 ds) : ∃ q, ds = TryI.eA q := by
  cases n with
  | zero => exact h.elim
  | succ n =>
    simp only [Go.Idl.Typed, show Try.prog.underlying 46 = some (.struct #[{ name := "Kind", type := 3, offset := 0, embedded := false, tag := "", pkgPath := "", byteOffset := 0 }, { name := "N", type := 3, offset := 1, embedded := false, tag := "", pkgPath := "", byteOffset := 8 }, { name := "M", type := 3, offset := 2, embedded := false, tag := "", pkgPath := "", byteOffset := 16 }]) from by kernel_rfl] at h
    obtain ⟨parts, rfl, h⟩ := h
    cases h with
    | cons h1 h =>
      cases h with
      | cons h2 h =>
        cases h with
        | cons h3 h =>
          cases h
          obtain ⟨a, rfl⟩ := typed3 h1
          obtain ⟨b, rfl⟩ := typed3 h2
          obtain ⟨c, rfl⟩ := typed3 h3
          exact ⟨⟨a, b, c⟩, rfl⟩
theorem typed44 {n : Nat} {ds : List Go.Idl.D} (h : Go.Idl.Typed Try.prog n 44 ds) : ∃ asks, ds = [.slice 3 (TryI.eAs asks)] := by
  cases n with
  | zero => exact h.elim
  | succ n =>
    simp only [Go.Idl.Typed, show Try.prog.underlying 44 = some (.slice 46) from by kernel_rfl, show Try.prog.cellsOf 46 = 3 from by kernel_rfl] at h
    obtain ⟨es, rfl, h⟩ := h
    have : ∃ asks, es = TryI.eAs asks := by
      induction es with
      | nil => exact ⟨[], rfl⟩
      | cons e es ih =>
        obtain ⟨k, hk⟩ := typed46 (h e (by simp))
        obtain ⟨asks, hasks⟩ := ih (fun x hx => h x (by simp [hx]))
        exact ⟨k :: asks, by rw [hk, hasks]; rfl⟩
    obtain ⟨asks, rfl⟩ := this
    exact ⟨asks, rfl⟩
theorem walk {H : Type} {enc : TypeId × Value → H} {W : World} {a0 : Option Addr} {len cap : Nat} {d0 : DataW H} {p0 : List MemPlace} (h0 : DataW.Trod enc Try.prog W 0 (fun _ => true) true 44 (.slice a0 len cap) d0 p0) :
    Calls Try.prog 5 #[.slice a0 len cap] W fun e w' => e = .returned (.bool true) ∧ Below W.heap.size W w' := by
  obtain ⟨fuel, hf⟩ := h0
  obtain ⟨ds, hd, ht, _⟩ := Go.Idl.trod_plain fuel 3 44 _ _ (by kernel_rfl) hf
  obtain ⟨asks, rfl⟩ := typed44 ht
  have hv : Go.Idl.Vrel (fun _ => none) (Go.Idl.cellsOf W) (.val false [.d (.slice 3 (TryI.eAs asks))]) (.slice a0 len cap) := by
    have hd' : Go.Idl.Drels (Go.Idl.cellsOf W) [.slice 3 (TryI.eAs asks)] [.slice a0 len cap] := hd
    cases hd' with
    | cons h _ => exact Go.Idl.Vrel.one.2 h
  exact Go.Idl.walkω2 TryI.runOk TryI.readOk TryI.funs TryI.mixed (fn := Try.f5) (by kernel_rfl) (by kernel_rfl) (TryI.plays asks) W (.cons hv .nil)

/-! ### THE ROW's STEP: WRITTEN OUT: LEAVE IT -/
set_option maxRecDepth 100000 in
theorem lifted (os : Os) (started : os.Started) (H : Type) (enc : TypeId × Value → H) :
    ReturnsInHanded {} Try.checked os 5 .any (Rows.ropePlaysSpec.pre6 enc Try.prog Try.f5 Rows.ropePlaysRow.domain false) (Rows.ropePlaysSpec.post enc Try.prog Try.f5 false true false false) := by
  refine returnsInHanded_of_change (C := Try.checked) own started (by kernel_rfl) Try.func5
    (ChangeSpec.witness6 (enc := enc) (C := Try.checked) false ⟨#[], #[.slice none 0 0], []⟩ 8 (by kernel_rfl) (by kernel_rfl) (by kernel_rfl) (by kernel_rfl)) ?_
  intro W base args ds gs before hval0 hW hcnd _
  have hval : ∀ (j : Nat) t v, Try.f5.params[j]? = some t → args[j]? = some v → Value.okWide Try.prog W .any base t v := hval0
  have hW' := hW
  obtain ⟨p, q, hA0, hV, rfl, hfz, hnd⟩ := hW
  have hA : DataW.TrodAll enc Try.prog W 0 (fun _ => true) true Try.f5.params.toList args.toList ds p := hA0
  rw [Try.params5] at hA hval
  obtain ⟨v0, vs0, d0, ds0, p0, q0, hargs, rfl, rfl, h0, r0⟩ := trodAll_cons hA
  obtain ⟨rfl, rfl, rfl⟩ := trodAll_nil r0
  obtain rfl : args = #[v0] := by cases args; simp_all
  obtain ⟨rfl, rfl⟩ := trodVars_none hV
  obtain ⟨a0, len, cap, rfl⟩ := Go.WideShapes.okWide_slice Try.underlying44 (hval 0 44 v0 rfl rfl)
  clear hA0 hval0
  simp only [List.append_nil] at hW'
  refine (walk h0).mono fun e W' ⟨he, hg⟩ => ?_
  subst he
  have hlt : ∀ x ∈ p0, x.block < W.heap.size := fun x hx => hW'.lt x hx
  exact ⟨_, rfl, post_of_below (pa := p0 ++ []) (pv := []) hW' hlt (fun _ _ _ => (trodAll_cons_mk (shut_bool Try.underlying4 _) trodAll_mk0))
    (fun sp hsp => trodAll_cons_mk (WideElems.Trod_stays (P := Try.prog) (by kernel_rfl) (by kernel_rfl) (of_decide_eq_true (by kernel_rfl)) h0 (fun x hx => hg.same (hlt x hx)) (fun x hx => hsp x hx)) trodAll_mk0) (fun _ _ => rfl) (by simp)
    (hg.frame _) (fun _ h => hg.frozen h) (ok_one (by kernel_rfl) rfl (okWide_bool_mk Try.underlying4 _))⟩

theorem over : Rows.ropePlaysRow.holds Try.pinned (OpenSpec.ofChange Rows.ropePlaysSpec) :=
  OpenClaim.holds_of_wide 5 Try.f5 rfl rfl rfl rfl rfl rfl rfl ⟨rfl, rfl, rfl, rfl, rfl⟩ rfl rfl rfl rfl rfl (by kernel_rfl) Try.func5 (by kernel_rfl)
    (of_decide_eq_true (by kernel_rfl)) (by unfold Func.isWrapper; first | (rw [if_pos (by decide +kernel)]; kernel_rfl) | (rw [if_neg (by decide +kernel)]; exact ⟨rfl, rfl⟩))
    (fun os started H enc _ => lifted os started H enc)

/-- ████ THE STATEMENT ████ -/
theorem proved : Rows.RopePlaysSaid :=
  over
end Go.Proofs.Ytemfbebfodagpaa.ropePlays
