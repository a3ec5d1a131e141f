/- Part of a proof that the laws of this seat return true: a machine over plain data (Idl) that is sound for the given model, and its runs. Conditions: none. -/
import Derived.Test.YtemfbebfodagpaaFun
import Derived.WalkKit
import Derived.ProofKit
import Derived.OpenShut
set_option linter.all false
namespace Go.Idl
open Go Go.RowKit

/-- A run of the ideal machine, as a walk. -/
theorem walk_of {P : Program} {T : Tab} (hT : RunOk P T) (hR : ReadOk T) (hF : FunOk P T) (hmix : P.follows Departure.mixedOrders = true) {f : FuncId} {fn : Func} {c : Code} (hf : T.func f = some fn) (hb : fn.body = some c)
    {n : Nat} {args : List DV} {r : DV} (e : runF T n f args [] = some (r, [])) (H : Im) (w : World) (him : ∀ b i v, H b i = some v → w.cell? ⟨b, i, none⟩ = some v) {rargs : List Value} (ha : F2 (Vrel (fun _ => none) H) args rargs) :
    Calls P f rargs.toArray w fun e w' => ∃ v, e = .returned v ∧ Below w.heap.size w w' ∧ ∃ H', Hle H H' ∧ (∀ b i v, H' b i = some v → w'.cell? ⟨b, i, none⟩ = some v) ∧ ∃ σ', Vrel σ' H' r v := by
  have h := runF_ok hT hR hF hmix n f args [] r [] (fun _ => none) H w rargs e ⟨by simp, by simp, by simp, him, by simp⟩ ha
  obtain ⟨hpf, hname⟩ := hF.func f fn hf
  have hname' : ¬ fn.name = "runtime.NumGoroutine" := by simpa using hname
  have hcall : (callFunc f rargs.toArray).run P w = .ok (.enter f rargs.toArray) w := by
    simp [callFunc, hpf, hname', hb]
  rw [hcall] at h
  refine Calls.mono h ?_
  rintro e w' ⟨v, rfl, σ', H', p, hv⟩
  exact ⟨v, rfl, ⟨p.same.os, p.same.tape, p.same.output, p.size, fun k hk => p.frame k hk (by rintro ⟨k, o, v, h1, _⟩; simp at h1)⟩, H', p.hle, p.rel.imm, σ', hv⟩
theorem walk_bool {P : Program} {T : Tab} (hT : RunOk P T) (hR : ReadOk T) (hF : FunOk P T) (hmix : P.follows Departure.mixedOrders = true) {f : FuncId} {fn : Func} {c : Code} (hf : T.func f = some fn) (hb : fn.body = some c)
    {n : Nat} {args : List DV} {b : Bool} (e : runF T n f args [] = some (.dd (.bool b), [])) (H : Im) (w : World) (him : ∀ b i v, H b i = some v → w.cell? ⟨b, i, none⟩ = some v) {rargs : List Value} (ha : F2 (Vrel (fun _ => none) H) args rargs) :
    Calls P f rargs.toArray w fun e w' => e = .returned (.bool b) ∧ Below w.heap.size w w' := by
  refine Calls.mono (walk_of hT hR hF hmix hf hb e H w him ha) ?_
  rintro e w' ⟨v, rfl, hbl, H', _, _, σ', hv⟩
  have := Vrel.one.1 hv
  cases this
  exact ⟨rfl, hbl⟩
end Go.Idl

namespace Go.ChangeShapes
open Go
theorem post_of_below {H : Type} {enc : TypeId × Value → H} {P : Program} {f : Func} {s : ChangeSpec}
    {apart fresh handsOn again : Bool} {W W' : World} {args : Array Value} {v : Value} {ds gs : List (DataW H)} {before pa pv : List MemPlace}
    (hW : DataW.Whole enc P f.params.toList s.vars apart W args.toList ds gs before)
    (hlt : ∀ p ∈ before, p.block < W.heap.size)
    (hr : ∀ (b : Nat) (sp : Nat → Bool) (hd : Bool), DataW.TrodAll enc P W' b sp hd f.resultTypes.toList (Value.resultList f.resultTypes.size v) (s.fn H (ds ++ gs)).results [])
    (ha : ∀ (sp : Nat → Bool), (∀ p ∈ before, sp p.block = true) → DataW.TrodAll enc P W' 0 sp true f.params.toList args.toList (s.fn H (ds ++ gs)).args pa)
    (hv : ∀ (sp : Nat → Bool), (∀ p ∈ before, sp p.block = true) → DataW.TrodVars enc P W' sp s.vars (s.fn H (ds ++ gs)).vars pv)
    (hb : before = pa ++ pv) (hk : W.keptBut W' fun x => x ∈ before) (hfz : ∀ a : Addr, a.block < W.heap.size → W'.frozen? a = W.frozen? a)
    (hok : ∀ (j : Nat) (t : TypeId) (r : Value), f.resultTypes[j]? = some t → (Value.resultList f.resultTypes.size v)[j]? = some r → Value.okWide P W' Reach.any 0 t r) :
    ChangeSpec.post enc P f s apart fresh handsOn again W args v W' := by
  have hW' := hW
  obtain ⟨p, q, _, _, _, hnf, hnd⟩ := hW'
  have hpred : (fun x : MemPlace => x ∈ before ∧ (x ∈ ([] : List MemPlace) ∨ x ∈ pa ∨ x ∈ pv)) = fun x => x ∈ before := by
    funext x
    apply propext
    constructor
    · exact fun h => h.1
    · intro h
      refine ⟨h, .inr ?_⟩
      rw [hb] at h
      exact List.mem_append.1 h
  refine ⟨ds, gs, before, [], pa, pv, hW, hr _ _ _, ha _ (fun p hp => decide_eq_true (hlt p hp)), hv _ (fun p hp => decide_eq_true (hlt p hp)), by rw [hpred]; exact hk, fun _ => ⟨hok, (s.fn H (ds ++ gs)).results ++ (s.fn H (ds ++ gs)).args, (s.fn H (ds ++ gs)).vars, before, ?_, fun _ hp _ => hp⟩⟩
  refine ⟨[] ++ pa, pv, trodAll_append (ha (fun _ => true) (fun _ _ => rfl)) (hr 0 (fun _ => true) true), hv (fun _ => true) (fun _ _ => rfl), by simpa using hb, ?_, hnd⟩
  intro b off hm
  rw [hfz _ (hlt _ hm)]
  exact hnf b off hm
end Go.ChangeShapes
