/- Part of a proof that the laws of this seat return true: a machine over plain data (Idl) that is sound for the given model, and its runs. Conditions: none. -/
import Derived.Test.YtemfbebfodagpaaTabR
set_option linter.all false
namespace Go.Proofs.TryI
open Go Go.Idl Go.Proofs
theorem ty0 : TyOk Try.prog 0 ti0 := TyOk.of (ti := Try.t0) (by kernel_rfl) (by kernel_rfl) (by kernel_rfl) (by kernel_rfl) (by kernel_rfl) (.inl rfl)
theorem ty3 : TyOk Try.prog 3 ti3 := TyOk.of (ti := Try.t3) (by kernel_rfl) (by kernel_rfl) (by kernel_rfl) (by kernel_rfl) (by kernel_rfl) (.inr ⟨by kernel_rfl, by kernel_rfl⟩)
theorem ty4 : TyOk Try.prog 4 ti4 := TyOk.of (ti := Try.t4) (by kernel_rfl) (by kernel_rfl) (by kernel_rfl) (by kernel_rfl) (by kernel_rfl) (.inr ⟨by kernel_rfl, by kernel_rfl⟩)
theorem ty22 : TyOk Try.prog 22 ti22 := TyOk.of (ti := Try.t22) (by kernel_rfl) (by kernel_rfl) (by kernel_rfl) (by kernel_rfl) (by kernel_rfl) (.inr ⟨by kernel_rfl, by kernel_rfl⟩)
theorem ty24 : TyOk Try.prog 24 ti24 := TyOk.of (ti := Try.t24) (by kernel_rfl) (by kernel_rfl) (by kernel_rfl) (by kernel_rfl) (by kernel_rfl) (.inr ⟨by kernel_rfl, by kernel_rfl⟩)
theorem ty26 : TyOk Try.prog 26 ti26 := TyOk.of (ti := Try.t26) (by kernel_rfl) (by kernel_rfl) (by kernel_rfl) (by kernel_rfl) (by kernel_rfl) (.inr ⟨by kernel_rfl, by kernel_rfl⟩)
theorem ty29 : TyOk Try.prog 29 ti29 := TyOk.of (ti := Try.t29) (by kernel_rfl) (by kernel_rfl) (by kernel_rfl) (by kernel_rfl) (by kernel_rfl) (.inr ⟨by kernel_rfl, by kernel_rfl⟩)
theorem ty30 : TyOk Try.prog 30 ti30 := TyOk.of (ti := Try.t30) (by kernel_rfl) (by kernel_rfl) (by kernel_rfl) (by kernel_rfl) (by kernel_rfl) (.inl rfl)
theorem ty32 : TyOk Try.prog 32 ti32 := TyOk.of (ti := Try.t32) (by kernel_rfl) (by kernel_rfl) (by kernel_rfl) (by kernel_rfl) (by kernel_rfl) (.inr ⟨by kernel_rfl, by kernel_rfl⟩)
theorem ty35 : TyOk Try.prog 35 ti35 := TyOk.of (ti := Try.t35) (by kernel_rfl) (by kernel_rfl) (by kernel_rfl) (by kernel_rfl) (by kernel_rfl) (.inl rfl)
theorem ty44 : TyOk Try.prog 44 ti44 := TyOk.of (ti := Try.t44) (by kernel_rfl) (by kernel_rfl) (by kernel_rfl) (by kernel_rfl) (by kernel_rfl) (.inr ⟨by kernel_rfl, by kernel_rfl⟩)
theorem ty46 : TyOk Try.prog 46 ti46 := TyOk.of (ti := Try.t46) (by kernel_rfl) (by kernel_rfl) (by kernel_rfl) (by kernel_rfl) (by kernel_rfl) (.inr ⟨by kernel_rfl, by kernel_rfl⟩)
theorem ty49 : TyOk Try.prog 49 ti49 := TyOk.of (ti := Try.t49) (by kernel_rfl) (by kernel_rfl) (by kernel_rfl) (by kernel_rfl) (by kernel_rfl) (.inr ⟨by kernel_rfl, by kernel_rfl⟩)
theorem ty51 : TyOk Try.prog 51 ti51 := TyOk.of (ti := Try.t51) (by kernel_rfl) (by kernel_rfl) (by kernel_rfl) (by kernel_rfl) (by kernel_rfl) (.inl rfl)
theorem ty56 : TyOk Try.prog 56 ti56 := TyOk.of (ti := Try.t56) (by kernel_rfl) (by kernel_rfl) (by kernel_rfl) (by kernel_rfl) (by kernel_rfl) (.inr ⟨by kernel_rfl, by kernel_rfl⟩)
theorem ty57 : TyOk Try.prog 57 ti57 := TyOk.of (ti := Try.t57) (by kernel_rfl) (by kernel_rfl) (by kernel_rfl) (by kernel_rfl) (by kernel_rfl) (.inl rfl)
theorem ty59 : TyOk Try.prog 59 ti59 := TyOk.of (ti := Try.t59) (by kernel_rfl) (by kernel_rfl) (by kernel_rfl) (by kernel_rfl) (by kernel_rfl) (.inr ⟨by kernel_rfl, by kernel_rfl⟩)
theorem ty64 : TyOk Try.prog 64 ti64 := TyOk.of (ti := Try.t64) (by kernel_rfl) (by kernel_rfl) (by kernel_rfl) (by kernel_rfl) (by kernel_rfl) (.inr ⟨by kernel_rfl, by kernel_rfl⟩)
theorem ty66 : TyOk Try.prog 66 ti66 := TyOk.of (ti := Try.t66) (by kernel_rfl) (by kernel_rfl) (by kernel_rfl) (by kernel_rfl) (by kernel_rfl) (.inr ⟨by kernel_rfl, by kernel_rfl⟩)
theorem ty67 : TyOk Try.prog 67 ti67 := TyOk.of (ti := Try.t67) (by kernel_rfl) (by kernel_rfl) (by kernel_rfl) (by kernel_rfl) (by kernel_rfl) (.inl rfl)
theorem fo2 : FnGood Try.prog 2 Try.f2 := ⟨by kernel_rfl, by kernel_rfl, by kernel_rfl⟩
theorem fo3 : FnGood Try.prog 3 Try.f3 := ⟨by kernel_rfl, by kernel_rfl, by kernel_rfl⟩
theorem fo4 : FnGood Try.prog 4 Try.f4 := ⟨by kernel_rfl, by kernel_rfl, by kernel_rfl⟩
theorem fo5 : FnGood Try.prog 5 Try.f5 := ⟨by kernel_rfl, by kernel_rfl, by kernel_rfl⟩
theorem fo6 : FnGood Try.prog 6 Try.f6 := ⟨by kernel_rfl, by kernel_rfl, by kernel_rfl⟩
theorem fo7 : FnGood Try.prog 7 Try.f7 := ⟨by kernel_rfl, by kernel_rfl, by kernel_rfl⟩
theorem fo8 : FnGood Try.prog 8 Try.f8 := ⟨by kernel_rfl, by kernel_rfl, by kernel_rfl⟩
theorem fo9 : FnGood Try.prog 9 Try.f9 := ⟨by kernel_rfl, by kernel_rfl, by kernel_rfl⟩
theorem fo10 : FnGood Try.prog 10 Try.f10 := ⟨by kernel_rfl, by kernel_rfl, by kernel_rfl⟩
theorem fo11 : FnGood Try.prog 11 Try.f11 := ⟨by kernel_rfl, by kernel_rfl, by kernel_rfl⟩
theorem fo12 : FnGood Try.prog 12 Try.f12 := ⟨by kernel_rfl, by kernel_rfl, by kernel_rfl⟩
theorem fo13 : FnGood Try.prog 13 Try.f13 := ⟨by kernel_rfl, by kernel_rfl, by kernel_rfl⟩
theorem fo14 : FnGood Try.prog 14 Try.f14 := ⟨by kernel_rfl, by kernel_rfl, by kernel_rfl⟩
theorem fo15 : FnGood Try.prog 15 Try.f15 := ⟨by kernel_rfl, by kernel_rfl, by kernel_rfl⟩
theorem fo16 : FnGood Try.prog 16 Try.f16 := ⟨by kernel_rfl, by kernel_rfl, by kernel_rfl⟩
theorem fo17 : FnGood Try.prog 17 Try.f17 := ⟨by kernel_rfl, by kernel_rfl, by kernel_rfl⟩
theorem fo18 : FnGood Try.prog 18 Try.f18 := ⟨by kernel_rfl, by kernel_rfl, by kernel_rfl⟩
theorem fo19 : FnGood Try.prog 19 Try.f19 := ⟨by kernel_rfl, by kernel_rfl, by kernel_rfl⟩
theorem fo20 : FnGood Try.prog 20 Try.f20 := ⟨by kernel_rfl, by kernel_rfl, by kernel_rfl⟩
theorem fo21 : FnGood Try.prog 21 Try.f21 := ⟨by kernel_rfl, by kernel_rfl, by kernel_rfl⟩
theorem fo22 : FnGood Try.prog 22 Try.f22 := ⟨by kernel_rfl, by kernel_rfl, by kernel_rfl⟩
theorem fo23 : FnGood Try.prog 23 Try.f23 := ⟨by kernel_rfl, by kernel_rfl, by kernel_rfl⟩
theorem fo24 : FnGood Try.prog 24 Try.f24 := ⟨by kernel_rfl, by kernel_rfl, by kernel_rfl⟩
theorem fo25 : FnGood Try.prog 25 Try.f25 := ⟨by kernel_rfl, by kernel_rfl, by kernel_rfl⟩
theorem fo26 : FnGood Try.prog 26 Try.f26 := ⟨by kernel_rfl, by kernel_rfl, by kernel_rfl⟩
theorem fo27 : FnGood Try.prog 27 Try.f27 := ⟨by kernel_rfl, by kernel_rfl, by kernel_rfl⟩
theorem fo28 : FnGood Try.prog 28 Try.f28 := ⟨by kernel_rfl, by kernel_rfl, by kernel_rfl⟩
theorem fo29 : FnGood Try.prog 29 Try.f29 := ⟨by kernel_rfl, by kernel_rfl, by kernel_rfl⟩
theorem fo30 : FnGood Try.prog 30 Try.f30 := ⟨by kernel_rfl, by kernel_rfl, by kernel_rfl⟩
theorem fo31 : FnGood Try.prog 31 Try.f31 := ⟨by kernel_rfl, by kernel_rfl, by kernel_rfl⟩
theorem fo32 : FnGood Try.prog 32 Try.f32 := ⟨by kernel_rfl, by kernel_rfl, by kernel_rfl⟩
theorem fo33 : FnGood Try.prog 33 Try.f33 := ⟨by kernel_rfl, by kernel_rfl, by kernel_rfl⟩
theorem tys : TabTy Try.prog T := ⟨fun t i h => Tr.all_get (t := infoT) (p := TyOk Try.prog) ⟨⟨⟨⟨ty0, ty3⟩, ⟨ty4, ⟨ty22, ty24⟩⟩⟩, ⟨⟨ty26, ty29⟩, ⟨ty30, ⟨ty32, ty35⟩⟩⟩⟩, ⟨⟨⟨ty44, ty46⟩, ⟨ty49, ⟨ty51, ty56⟩⟩⟩, ⟨⟨ty57, ty59⟩, ⟨ty64, ⟨ty66, ty67⟩⟩⟩⟩⟩ h⟩
theorem eq4 : EqOk Try.prog 4 [1] := EqOk.one (k := 1) (show Try.prog.underlying 4 = some .bool from by kernel_rfl) (by decide)
theorem eq22 : EqOk Try.prog 22 [5] := EqOk.one (k := 5) ⟨64, Try.t64, by kernel_rfl, by kernel_rfl, by decide +kernel⟩ (by decide)
theorem eq29 : EqOk Try.prog 29 [0, 2, 4] := EqOk.agg (by kernel_rfl) (EqIn.struct (d := 9999) tys (by kernel_rfl) (by kernel_rfl) (by rw [show (Try.prog.fieldsOf 29).toList = [{ name := "Key", type := 3, offset := 0, embedded := false, tag := "", pkgPath := "", byteOffset := 0 }, { name := "Mark", type := 26, offset := 1, embedded := false, tag := "", pkgPath := "", byteOffset := 8 }] from by kernel_rfl]; exact (show EqFs Try.prog T 9999 0 [{ name := "Key", type := 3, offset := 0, embedded := false, tag := "", pkgPath := "", byteOffset := 0 }, { name := "Mark", type := 26, offset := 1, embedded := false, tag := "", pkgPath := "", byteOffset := 8 }] ([2] ++ ([4] ++ ([]))) from (.cons (i := ti3) (by decide) rfl (by kernel_rfl) rfl (by decide) (fun h => by first | rfl | exact nomatch h) (EqIn.one (t := 3) (k := 2) ⟨.i64, by kernel_rfl⟩ 9998) (.cons (i := ti26) (by decide) rfl (by kernel_rfl) rfl (by decide) (fun h => by first | rfl | exact nomatch h) (EqIn.one (t := 26) (k := 4) ⟨.f64, by kernel_rfl⟩ 9998) (.nil _))))))
theorem eqAll : ∀ t i, T.info t = some i → i.eqk ≠ [] → EqOk Try.prog t i.eqk := fun t i h => Tr.all_get (t := infoT) (p := fun t i => i.eqk ≠ [] → EqOk Try.prog t i.eqk) ⟨⟨⟨⟨(fun h => absurd rfl h), (fun h => absurd rfl h)⟩, ⟨(fun _ => eq4), ⟨(fun _ => eq22), (fun h => absurd rfl h)⟩⟩⟩, ⟨⟨(fun h => absurd rfl h), (fun _ => eq29)⟩, ⟨(fun h => absurd rfl h), ⟨(fun h => absurd rfl h), (fun h => absurd rfl h)⟩⟩⟩⟩, ⟨⟨⟨(fun h => absurd rfl h), (fun h => absurd rfl h)⟩, ⟨(fun h => absurd rfl h), ⟨(fun h => absurd rfl h), (fun h => absurd rfl h)⟩⟩⟩, ⟨⟨(fun h => absurd rfl h), (fun h => absurd rfl h)⟩, ⟨(fun h => absurd rfl h), ⟨(fun h => absurd rfl h), (fun h => absurd rfl h)⟩⟩⟩⟩⟩ h
theorem funs : FunOk Try.prog T := FunOk.of fun f fn h => Tr.all_get (t := funcT) (p := FnGood Try.prog) ⟨⟨⟨⟨⟨fo2, fo3⟩, ⟨fo4, fo5⟩⟩, ⟨⟨fo6, fo7⟩, ⟨fo8, fo9⟩⟩⟩, ⟨⟨⟨fo10, fo11⟩, ⟨fo12, fo13⟩⟩, ⟨⟨fo14, fo15⟩, ⟨fo16, fo17⟩⟩⟩⟩, ⟨⟨⟨⟨fo18, fo19⟩, ⟨fo20, fo21⟩⟩, ⟨⟨fo22, fo23⟩, ⟨fo24, fo25⟩⟩⟩, ⟨⟨⟨fo26, fo27⟩, ⟨fo28, fo29⟩⟩, ⟨⟨fo30, fo31⟩, ⟨fo32, fo33⟩⟩⟩⟩⟩ h
end Go.Proofs.TryI
