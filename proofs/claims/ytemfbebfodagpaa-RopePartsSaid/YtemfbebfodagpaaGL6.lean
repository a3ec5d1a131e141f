/- Part of a proof that the laws of this seat return true: a machine over plain data (Idl) that is sound for the given model, and its runs. Conditions: none. -/
import Derived.Test.YtemfbebfodagpaaKOk2
import Derived.Test.YtemfbebfodagpaaTabRO
import Derived.Test.YtemfbebfodagpaaTabRK
set_option linter.all false
set_option linter.all false
set_option maxRecDepth 100000
namespace Go.Proofs.TryI
open Go Go.Idl Go.Proofs
/-! gloss/glosslaw3.RopeParts -/
noncomputable def g6 (fx : Fx (DV × Heap)) (l0 : List (List D)) (i1 : Int) (i2 : Int) : Option (DV × Heap) :=
  fx.lp (0) (bodyAt 0 0 (bodyOf Try.f6)) (St.mk [(0, DV.val false [C.d (D.slice 1 l0)]), (1, DV.val false [C.d (D.int IntKind.i64 i1)]), (2, DV.val false [C.d (D.int IntKind.i64 i2)]), (6, DV.val false [C.d (D.bool false)]), (7, DV.val false [C.arr 0]), (8, DV.val false [C.ptr 1 0]), (9, DV.val false [C.d (D.int IntKind.i64 0)])] [Ob.arr false false 29 2 [], Ob.box false [C.d D.nilp]]) (contAt T kt fx (frOf T 6 Try.f6 0) 0 0 (bodyOf Try.f6) (endK T 6 Try.f6 0))
theorem r6 (fx : Fx (DV × Heap)) (l0 : List (List D)) (i1 : Int) (i2 : Int) : fnK T kt fx 6 Try.f6 ([DV.val false [C.d (D.slice 1 l0)], DV.val false [C.d (D.int IntKind.i64 i1)], DV.val false [C.d (D.int IntKind.i64 i2)]]) ([]) = g6 fx l0 i1 i2 := by kernel_rfl
abbrev st6_0 (l3 : List (List D)) (i4 : Int) (i5 : Int) (b6 : Bool) (i7 : Int) (l8 : List (List D)) (d9 : D) : St := (St.mk [(0, DV.val false [C.d (D.slice 1 l3)]), (1, DV.val false [C.d (D.int IntKind.i64 i4)]), (2, DV.val false [C.d (D.int IntKind.i64 i5)]), (6, DV.val false [C.d (D.bool b6)]), (7, DV.val false [C.arr 0]), (8, DV.val false [C.ptr 1 0]), (9, DV.val false [C.d (D.int IntKind.i64 i7)])] [Ob.arr false false 29 2 l8, Ob.box false [C.d d9]])
noncomputable def gl6_0 {R : Type} (fx : Fx R) (rec : St → Option R) (kk : Ex → St → Option R) (l3 : List (List D)) (i4 : Int) (i5 : Int) (b6 : Bool) (i7 : Int) (l8 : List (List D)) (d9 : D) : Option R :=
  cond (decide (i7 < (↑(List.length l3) : Int)))
    (cond (decide (i7 < 60))
      (fx.elp l3 i7 (fun (c10 : List D) =>
        fx.ptr (D.ptr c10) (fun (c11 : List D) =>
          fx.load c11 ([Sh.int IntKind.i64]) (fun ((i12 : Int), _) =>
            fx.elp l3 i7 (fun (c13 : List D) =>
              fx.ptr (D.ptr c13) (fun (c14 : List D) =>
                fx.load c14 ([Sh.int IntKind.i64]) (fun ((i15 : Int), _) =>
                  fx.call (15) ([DV.val false [C.d (D.int IntKind.i64 i15)], DV.val false [C.d (D.int IntKind.i64 0)], DV.val false [C.d (D.int IntKind.i64 99)]]) ([]) (RS.mk [(false, [CSh.d (Sh.int IntKind.i64)])] []) (fun ((((i16 : Int), _), _), _) =>
                    fx.call (9) ([DV.val false [C.d (D.int IntKind.i64 1)], DV.val false [C.d (D.int IntKind.i64 i16)]]) ([]) (RS.mk [(false, [CSh.d Sh.cpx])] []) (fun (((((n17 : Nat), (n18 : Nat)), _), _), _) =>
                      fx.chk (decide (List.length l8 + 1 ≤ 1048576))
                        (fx.call (8) ([DV.val false [C.d (D.slice 2 [[D.int IntKind.i64 i12, D.cpx FloatKind.f64 n17 n18]])]]) ([]) (RS.mk [(true, [CSh.d Sh.any])] []) (fun ((((d19 : D), _), _), _) =>
                          fx.call (11) ([DV.val false [C.d (D.slice 1 [[d9], [d19]])]]) ([]) (RS.mk [(true, [CSh.d Sh.any])] []) (fun ((((d20 : D), _), _), _) =>
                            rec (St.mk [(0, DV.val false [C.d (D.slice 1 l3)]), (1, DV.val false [C.d (D.int IntKind.i64 i4)]), (2, DV.val false [C.d (D.int IntKind.i64 i5)]), (6, DV.val false [C.d (D.bool b6)]), (7, DV.val false [C.arr 0]), (8, DV.val false [C.ptr 1 0]), (9, DV.val false [C.d (D.int IntKind.i64 (IntKind.wrap IntKind.i64 (i7 + 1)))])] [Ob.arr false false 29 2 (l8 ++ [[D.int IntKind.i64 i12, D.cpx FloatKind.f64 n17 n18]]), Ob.box false [C.d d20]])))))))))))))
      (kk (Ex.exit 0) (St.mk [(0, DV.val false [C.d (D.slice 1 l3)]), (1, DV.val false [C.d (D.int IntKind.i64 i4)]), (2, DV.val false [C.d (D.int IntKind.i64 i5)]), (6, DV.val false [C.d (D.bool b6)]), (7, DV.val false [C.arr 0]), (8, DV.val false [C.ptr 1 0]), (9, DV.val false [C.d (D.int IntKind.i64 i7)]), (24, DV.val false [C.d (D.bool (decide (i7 < 60)))])] [Ob.arr false false 29 2 l8, Ob.box false [C.d d9]])))
    (kk (Ex.exit 0) (St.mk [(0, DV.val false [C.d (D.slice 1 l3)]), (1, DV.val false [C.d (D.int IntKind.i64 i4)]), (2, DV.val false [C.d (D.int IntKind.i64 i5)]), (6, DV.val false [C.d (D.bool b6)]), (7, DV.val false [C.arr 0]), (8, DV.val false [C.ptr 1 0]), (9, DV.val false [C.d (D.int IntKind.i64 i7)]), (24, DV.val false [C.d (D.bool false)])] [Ob.arr false false 29 2 l8, Ob.box false [C.d d9]]))
theorem rl6_0 {R : Type} (fx : Fx R) (rec : St → Option R) (kk : Ex → St → Option R) (l3 : List (List D)) (i4 : Int) (i5 : Int) (b6 : Bool) (i7 : Int) (l8 : List (List D)) (d9 : D) : runK T kt fx (frOf T 6 Try.f6 0) 0 (bodyAt 0 0 (bodyOf Try.f6)) (st6_0 l3 i4 i5 b6 i7 l8 d9) (roundK (frOf T 6 Try.f6 0) 0 ([0, 1, 2, 6, 7, 8, 9]) rec kk) = gl6_0 fx rec kk l3 i4 i5 b6 i7 l8 d9 := by kernel_rfl
noncomputable def ga6_0_0 (fx : Fx (DV × Heap)) (l21 : List (List D)) (i22 : Int) (i23 : Int) (b24 : Bool) (i25 : Int) (b26 : Bool) (l27 : List (List D)) (d28 : D) : Option (DV × Heap) :=
  fx.call (8) ([DV.val false [C.d (D.slice 2 l27)]]) ([]) (RS.mk [(true, [CSh.d Sh.any])] []) (fun ((((d29 : D), _), _), _) =>
    fx.call (10) ([DV.val true [C.d d29], DV.val false [C.d (D.int IntKind.i64 i22)]]) ([]) (RS.mk [(true, [CSh.d Sh.any]), (true, [CSh.d Sh.any])] []) (fun ((((d30 : D), _), (((d31 : D), _), _)), _) =>
      fx.call (10) ([DV.val true [C.d d31], DV.val false [C.d (D.int IntKind.i64 i23)]]) ([]) (RS.mk [(true, [CSh.d Sh.any]), (true, [CSh.d Sh.any])] []) (fun ((((d32 : D), _), (((d33 : D), _), _)), _) =>
        fx.call (11) ([DV.val false [C.d (D.slice 1 [[d30], [d32], [d33]])]]) ([]) (RS.mk [(true, [CSh.d Sh.any])] []) (fun ((((d34 : D), _), _), _) =>
          fx.call (12) ([DV.val true [C.d d28]]) ([]) (RS.mk [(false, [CSh.d (Sh.sl 2)])] []) (fun ((((l35 : List (List D)), _), _), _) =>
            fx.call (16) ([DV.val false [C.d (D.slice 2 l35)], DV.val false [C.d (D.slice 2 l27)]]) ([]) (RS.mk [(false, [CSh.d Sh.bool])] []) (fun ((((b36 : Bool), _), _), _) =>
              cond b36
                (fx.call (12) ([DV.val true [C.d d34]]) ([]) (RS.mk [(false, [CSh.d (Sh.sl 2)])] []) (fun ((((l37 : List (List D)), _), _), _) =>
                  fx.call (16) ([DV.val false [C.d (D.slice 2 l37)], DV.val false [C.d (D.slice 2 l27)]]) ([]) (RS.mk [(false, [CSh.d Sh.bool])] []) (fun ((((b38 : Bool), _), _), _) =>
                    cond b38
                      (fx.call (17) ([DV.val true [C.d d30]]) ([]) (RS.mk [(false, [CSh.d Sh.cpx])] []) (fun (((((n39 : Nat), (n40 : Nat)), _), _), _) =>
                        fx.call (17) ([DV.val true [C.d d32]]) ([]) (RS.mk [(false, [CSh.d Sh.cpx])] []) (fun (((((n41 : Nat), (n42 : Nat)), _), _), _) =>
                          fx.call (17) ([DV.val true [C.d d33]]) ([]) (RS.mk [(false, [CSh.d Sh.cpx])] []) (fun (((((n43 : Nat), (n44 : Nat)), _), _), _) =>
                            fx.call (18) ([DV.val false [C.d (D.slice 1 [[D.cpx FloatKind.f64 n39 n40], [D.cpx FloatKind.f64 n41 n42], [D.cpx FloatKind.f64 n43 n44]])]]) ([]) (RS.mk [(false, [CSh.d Sh.cpx])] []) (fun (((((n45 : Nat), (n46 : Nat)), _), _), _) =>
                              fx.call (17) ([DV.val true [C.d d29]]) ([]) (RS.mk [(false, [CSh.d Sh.cpx])] []) (fun (((((n47 : Nat), (n48 : Nat)), _), _), _) =>
                                cond (floatEqB FloatKind.f64 n45 n47 && floatEqB FloatKind.f64 n46 n48)
                                  (fx.call (14) ([DV.val true [C.d d30]]) ([]) (RS.mk [(false, [CSh.d (Sh.int IntKind.i64)])] []) (fun ((((i49 : Int), _), _), _) =>
                                    fx.call (14) ([DV.val true [C.d d32]]) ([]) (RS.mk [(false, [CSh.d (Sh.int IntKind.i64)])] []) (fun ((((i50 : Int), _), _), _) =>
                                      fx.call (14) ([DV.val true [C.d d33]]) ([]) (RS.mk [(false, [CSh.d (Sh.int IntKind.i64)])] []) (fun ((((i51 : Int), _), _), _) =>
                                        cond (IntKind.wrap IntKind.i64 (IntKind.wrap IntKind.i64 (i49 + i50) + i51) == (↑(List.length l27) : Int))
                                          (fx.call (20) ([DV.val true [C.d d28], DV.val false [C.d (D.slice 2 l27)], DV.val false [C.d (D.int IntKind.i64 i22)]]) ([]) (RS.mk [(false, [CSh.d Sh.bool])] []) (fun ((((b52 : Bool), _), _), _) =>
                                            cond b52
                                              (fx.call (20) ([DV.val true [C.d d34], DV.val false [C.d (D.slice 2 l27)], DV.val false [C.d (D.int IntKind.i64 i23)]]) ([]) (RS.mk [(false, [CSh.d Sh.bool])] []) (fun ((((b53 : Bool), _), _), _) =>
                                                cond b53
                                                  (fx.call (11) ([DV.val false [C.d (D.slice 1 [])]]) ([]) (RS.mk [(true, [CSh.d Sh.any])] []) (fun ((((d54 : D), _), _), _) =>
                                                    fx.call (14) ([DV.val true [C.d d54]]) ([]) (RS.mk [(false, [CSh.d (Sh.int IntKind.i64)])] []) (fun ((((i55 : Int), _), _), _) =>
                                                      cond (i55 == 0)
                                                        (fx.call (3) ([]) ([]) (RS.mk [(false, [CSh.d Sh.bool])] []) (fun ((((b56 : Bool), _), _), _) =>
                                                          some ((DV.val false [C.d (D.bool b56)], []))))
                                                        (some ((DV.val false [C.d (D.bool false)], []))))))
                                                  (some ((DV.val false [C.d (D.bool false)], [])))))
                                              (some ((DV.val false [C.d (D.bool false)], [])))))
                                          (some ((DV.val false [C.d (D.bool false)], [])))))))
                                  (some ((DV.val false [C.d (D.bool false)], [])))))))))
                      (some ((DV.val false [C.d (D.bool false)], []))))))
                (some ((DV.val false [C.d (D.bool false)], [])))))))))
abbrev sx6_0_0 (l21 : List (List D)) (i22 : Int) (i23 : Int) (b24 : Bool) (i25 : Int) (b26 : Bool) (l27 : List (List D)) (d28 : D) : St := (St.mk [(0, DV.val false [C.d (D.slice 1 l21)]), (1, DV.val false [C.d (D.int IntKind.i64 i22)]), (2, DV.val false [C.d (D.int IntKind.i64 i23)]), (6, DV.val false [C.d (D.bool b24)]), (7, DV.val false [C.arr 0]), (8, DV.val false [C.ptr 1 0]), (9, DV.val false [C.d (D.int IntKind.i64 i25)]), (24, DV.val false [C.d (D.bool b26)])] [Ob.arr false false 29 2 l27, Ob.box false [C.d d28]])
theorem ra6_0_0 (fx : Fx (DV × Heap)) (l21 : List (List D)) (i22 : Int) (i23 : Int) (b24 : Bool) (i25 : Int) (b26 : Bool) (l27 : List (List D)) (d28 : D) : contAt T kt fx (frOf T 6 Try.f6 0) 0 0 (bodyOf Try.f6) (endK T 6 Try.f6 0) (Ex.exit 0) (sx6_0_0 l21 i22 i23 b24 i25 b26 l27 d28) = ga6_0_0 fx l21 i22 i23 b24 i25 b26 l27 d28 := by kernel_rfl
end Go.Proofs.TryI
