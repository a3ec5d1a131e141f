/- Part of a proof that the laws of this seat return true: a machine over plain data (Idl) that is sound for the given model, and its runs. Conditions: none. -/
import Derived.Test.YtemfbebfodagpaaKOk2
import Derived.Test.YtemfbebfodagpaaTabRO
import Derived.Test.YtemfbebfodagpaaTabRK
set_option linter.all false
set_option linter.all false
set_option maxRecDepth 100000
namespace Go.Proofs.TryI
open Go Go.Idl Go.Proofs
/-! gloss/glosslaw3.RopeShares -/
noncomputable def g4 (fx : Fx (DV × Heap)) (i0 : Int) (i1 : Int) (i2 : Int) : Option (DV × Heap) :=
  fx.call (15) ([DV.val false [C.d (D.int IntKind.i64 i0)], DV.val false [C.d (D.int IntKind.i64 1)], DV.val false [C.d (D.int IntKind.i64 80)]]) ([]) (RS.mk [(false, [CSh.d (Sh.int IntKind.i64)])] []) (fun ((((i3 : Int), _), _), _) =>
    fx.lp (0) (bodyAt 0 0 (bodyOf Try.f4)) (St.mk [(0, DV.val false [C.d (D.int IntKind.i64 i0)]), (1, DV.val false [C.d (D.int IntKind.i64 i1)]), (2, DV.val false [C.d (D.int IntKind.i64 i2)]), (6, DV.val false [C.d (D.bool false)]), (7, DV.val false [C.d (D.int IntKind.i64 i3)]), (8, DV.val false [C.arr 0]), (25, DV.val false [C.d (D.int IntKind.i64 i3)]), (26, DV.val false [C.d (D.int IntKind.i64 0)])] [Ob.arr false false 29 2 []]) (contAt T kt fx (frOf T 4 Try.f4 0) 0 0 (bodyOf Try.f4) (endK T 4 Try.f4 0)))
theorem r4 (fx : Fx (DV × Heap)) (i0 : Int) (i1 : Int) (i2 : Int) : fnK T kt fx 4 Try.f4 ([DV.val false [C.d (D.int IntKind.i64 i0)], DV.val false [C.d (D.int IntKind.i64 i1)], DV.val false [C.d (D.int IntKind.i64 i2)]]) ([]) = g4 fx i0 i1 i2 := by kernel_rfl
abbrev st4_0 (i4 : Int) (i5 : Int) (i6 : Int) (b7 : Bool) (i8 : Int) (i9 : Int) (i10 : Int) (l11 : List (List D)) : St := (St.mk [(0, DV.val false [C.d (D.int IntKind.i64 i4)]), (1, DV.val false [C.d (D.int IntKind.i64 i5)]), (2, DV.val false [C.d (D.int IntKind.i64 i6)]), (6, DV.val false [C.d (D.bool b7)]), (7, DV.val false [C.d (D.int IntKind.i64 i8)]), (8, DV.val false [C.arr 0]), (25, DV.val false [C.d (D.int IntKind.i64 i9)]), (26, DV.val false [C.d (D.int IntKind.i64 i10)])] [Ob.arr false false 29 2 l11])
noncomputable def gl4_0 {R : Type} (fx : Fx R) (rec : St → Option R) (kk : Ex → St → Option R) (i4 : Int) (i5 : Int) (i6 : Int) (b7 : Bool) (i8 : Int) (i9 : Int) (i10 : Int) (l11 : List (List D)) : Option R :=
  cond (decide (i10 < i9))
    (fx.chk true
      (fx.call (9) ([DV.val false [C.d (D.int IntKind.i64 (Int.tmod i10 2))], DV.val false [C.d (D.int IntKind.i64 i10)]]) ([]) (RS.mk [(false, [CSh.d Sh.cpx])] []) (fun (((((n12 : Nat), (n13 : Nat)), _), _), _) =>
        fx.chk (decide (List.length l11 + 1 ≤ 1048576))
          (rec (St.mk [(0, DV.val false [C.d (D.int IntKind.i64 i4)]), (1, DV.val false [C.d (D.int IntKind.i64 i5)]), (2, DV.val false [C.d (D.int IntKind.i64 i6)]), (6, DV.val false [C.d (D.bool b7)]), (7, DV.val false [C.d (D.int IntKind.i64 i8)]), (8, DV.val false [C.arr 0]), (25, DV.val false [C.d (D.int IntKind.i64 i9)]), (26, DV.val false [C.d (D.int IntKind.i64 (IntKind.wrap IntKind.i64 (i10 + 1)))])] [Ob.arr false false 29 2 (l11 ++ [[D.int IntKind.i64 i10, D.cpx FloatKind.f64 n12 n13]])])))))
    (kk (Ex.exit 0) (St.mk [(0, DV.val false [C.d (D.int IntKind.i64 i4)]), (1, DV.val false [C.d (D.int IntKind.i64 i5)]), (2, DV.val false [C.d (D.int IntKind.i64 i6)]), (6, DV.val false [C.d (D.bool b7)]), (7, DV.val false [C.d (D.int IntKind.i64 i8)]), (8, DV.val false [C.arr 0]), (25, DV.val false [C.d (D.int IntKind.i64 i9)]), (26, DV.val false [C.d (D.int IntKind.i64 i10)]), (27, DV.val false [C.d (D.bool (decide (i10 < i9)))])] [Ob.arr false false 29 2 l11]))
theorem rl4_0 {R : Type} (fx : Fx R) (rec : St → Option R) (kk : Ex → St → Option R) (i4 : Int) (i5 : Int) (i6 : Int) (b7 : Bool) (i8 : Int) (i9 : Int) (i10 : Int) (l11 : List (List D)) : runK T kt fx (frOf T 4 Try.f4 0) 0 (bodyAt 0 0 (bodyOf Try.f4)) (st4_0 i4 i5 i6 b7 i8 i9 i10 l11) (roundK (frOf T 4 Try.f4 0) 0 ([0, 1, 2, 6, 7, 8, 25, 26]) rec kk) = gl4_0 fx rec kk i4 i5 i6 b7 i8 i9 i10 l11 := by kernel_rfl
noncomputable def ga4_0_0 (fx : Fx (DV × Heap)) (i14 : Int) (i15 : Int) (i16 : Int) (b17 : Bool) (i18 : Int) (i19 : Int) (i20 : Int) (b21 : Bool) (l22 : List (List D)) : Option (DV × Heap) :=
  fx.call (8) ([DV.val false [C.d (D.slice 2 l22)]]) ([]) (RS.mk [(true, [CSh.d Sh.any])] []) (fun ((((d23 : D), _), _), _) =>
    fx.call (15) ([DV.val false [C.d (D.int IntKind.i64 i15)], DV.val false [C.d (D.int IntKind.i64 0)], DV.val false [C.d (D.int IntKind.i64 i18)]]) ([]) (RS.mk [(false, [CSh.d (Sh.int IntKind.i64)])] []) (fun ((((i24 : Int), _), _), _) =>
      fx.call (10) ([DV.val true [C.d d23], DV.val false [C.d (D.int IntKind.i64 i24)]]) ([]) (RS.mk [(true, [CSh.d Sh.any]), (true, [CSh.d Sh.any])] []) (fun ((((d25 : D), _), (((d26 : D), _), _)), _) =>
        fx.call (15) ([DV.val false [C.d (D.int IntKind.i64 i16)], DV.val false [C.d (D.int IntKind.i64 0)], DV.val false [C.d (D.int IntKind.i64 i18)]]) ([]) (RS.mk [(false, [CSh.d (Sh.int IntKind.i64)])] []) (fun ((((i27 : Int), _), _), _) =>
          fx.call (10) ([DV.val true [C.d d23], DV.val false [C.d (D.int IntKind.i64 i27)]]) ([]) (RS.mk [(true, [CSh.d Sh.any]), (true, [CSh.d Sh.any])] []) (fun ((((d28 : D), _), (((d29 : D), _), _)), _) =>
            fx.call (8) ([DV.val false [C.d (D.slice 2 [[D.int IntKind.i64 (-1), D.cpx FloatKind.f64 0 0]])]]) ([]) (RS.mk [(true, [CSh.d Sh.any])] []) (fun ((((d30 : D), _), _), _) =>
              fx.call (11) ([DV.val false [C.d (D.slice 1 [[d26], [d30], [d25]])]]) ([]) (RS.mk [(true, [CSh.d Sh.any])] []) (fun ((((d31 : D), _), _), _) =>
                fx.call (11) ([DV.val false [C.d (D.slice 1 [[d29], [d29], [d28]])]]) ([]) (RS.mk [(true, [CSh.d Sh.any])] []) (fun ((((d32 : D), _), _), _) =>
                  fx.call (12) ([DV.val true [C.d d25]]) ([]) (RS.mk [(false, [CSh.d (Sh.sl 2)])] []) (fun ((((l33 : List (List D)), _), _), _) =>
                    fx.call (12) ([DV.val true [C.d d26]]) ([]) (RS.mk [(false, [CSh.d (Sh.sl 2)])] []) (fun ((((l34 : List (List D)), _), _), _) =>
                      fx.call (12) ([DV.val true [C.d d28]]) ([]) (RS.mk [(false, [CSh.d (Sh.sl 2)])] []) (fun ((((l35 : List (List D)), _), _), _) =>
                        fx.call (12) ([DV.val true [C.d d29]]) ([]) (RS.mk [(false, [CSh.d (Sh.sl 2)])] []) (fun ((((l36 : List (List D)), _), _), _) =>
                          fx.chk (decide (0 + List.length l34 ≤ 1048576))
                            (fx.chk (decide (List.length ([] ++ l34) + 1 ≤ 1048576))
                              (fx.chk (decide (List.length ([] ++ l34 ++ [[D.int IntKind.i64 (-1), D.cpx FloatKind.f64 0 0]]) + List.length l33 ≤ 1048576))
                                (fx.chk (decide (0 + List.length l36 ≤ 1048576))
                                  (fx.chk (decide (List.length ([] ++ l36) + List.length l36 ≤ 1048576))
                                    (fx.chk (decide (List.length ([] ++ l36 ++ l36) + List.length l35 ≤ 1048576))
                                      (fx.call (12) ([DV.val true [C.d d31]]) ([]) (RS.mk [(false, [CSh.d (Sh.sl 2)])] []) (fun ((((l37 : List (List D)), _), _), _) =>
                                        fx.call (16) ([DV.val false [C.d (D.slice 2 l37)], DV.val false [C.d (D.slice 2 ([] ++ l34 ++ [[D.int IntKind.i64 (-1), D.cpx FloatKind.f64 0 0]] ++ l33))]]) ([]) (RS.mk [(false, [CSh.d Sh.bool])] []) (fun ((((b38 : Bool), _), _), _) =>
                                          cond b38
                                            (fx.call (12) ([DV.val true [C.d d32]]) ([]) (RS.mk [(false, [CSh.d (Sh.sl 2)])] []) (fun ((((l39 : List (List D)), _), _), _) =>
                                              fx.call (16) ([DV.val false [C.d (D.slice 2 l39)], DV.val false [C.d (D.slice 2 ([] ++ l36 ++ l36 ++ l35))]]) ([]) (RS.mk [(false, [CSh.d Sh.bool])] []) (fun ((((b40 : Bool), _), _), _) =>
                                                cond b40
                                                  (fx.call (12) ([DV.val true [C.d d23]]) ([]) (RS.mk [(false, [CSh.d (Sh.sl 2)])] []) (fun ((((l41 : List (List D)), _), _), _) =>
                                                    fx.call (16) ([DV.val false [C.d (D.slice 2 l41)], DV.val false [C.d (D.slice 2 l22)]]) ([]) (RS.mk [(false, [CSh.d Sh.bool])] []) (fun ((((b42 : Bool), _), _), _) =>
                                                      cond b42
                                                        (fx.chk (decide (0 + List.length l33 ≤ 1048576))
                                                          (fx.chk (decide (List.length ([] ++ l33) + List.length l34 ≤ 1048576))
                                                            (fx.call (16) ([DV.val false [C.d (D.slice 2 ([] ++ l33 ++ l34))], DV.val false [C.d (D.slice 2 l22)]]) ([]) (RS.mk [(false, [CSh.d Sh.bool])] []) (fun ((((b43 : Bool), _), _), _) =>
                                                              cond b43
                                                                (fx.call (17) ([DV.val true [C.d d32]]) ([]) (RS.mk [(false, [CSh.d Sh.cpx])] []) (fun (((((n44 : Nat), (n45 : Nat)), _), _), _) =>
                                                                  fx.call (17) ([DV.val true [C.d d29]]) ([]) (RS.mk [(false, [CSh.d Sh.cpx])] []) (fun (((((n46 : Nat), (n47 : Nat)), _), _), _) =>
                                                                    fx.call (17) ([DV.val true [C.d d29]]) ([]) (RS.mk [(false, [CSh.d Sh.cpx])] []) (fun (((((n48 : Nat), (n49 : Nat)), _), _), _) =>
                                                                      fx.call (17) ([DV.val true [C.d d28]]) ([]) (RS.mk [(false, [CSh.d Sh.cpx])] []) (fun (((((n50 : Nat), (n51 : Nat)), _), _), _) =>
                                                                        fx.call (18) ([DV.val false [C.d (D.slice 1 [[D.cpx FloatKind.f64 n46 n47], [D.cpx FloatKind.f64 n48 n49], [D.cpx FloatKind.f64 n50 n51]])]]) ([]) (RS.mk [(false, [CSh.d Sh.cpx])] []) (fun (((((n52 : Nat), (n53 : Nat)), _), _), _) =>
                                                                          cond (floatEqB FloatKind.f64 n44 n52 && floatEqB FloatKind.f64 n45 n53)
                                                                            (fx.call (3) ([]) ([]) (RS.mk [(false, [CSh.d Sh.bool])] []) (fun ((((b54 : Bool), _), _), _) =>
                                                                              some ((DV.val false [C.d (D.bool b54)], []))))
                                                                            (some ((DV.val false [C.d (D.bool false)], [])))))))))
                                                                (some ((DV.val false [C.d (D.bool false)], [])))))))
                                                        (some ((DV.val false [C.d (D.bool false)], []))))))
                                                  (some ((DV.val false [C.d (D.bool false)], []))))))
                                            (some ((DV.val false [C.d (D.bool false)], [])))))))))))))))))))))))
abbrev sx4_0_0 (i14 : Int) (i15 : Int) (i16 : Int) (b17 : Bool) (i18 : Int) (i19 : Int) (i20 : Int) (b21 : Bool) (l22 : List (List D)) : St := (St.mk [(0, DV.val false [C.d (D.int IntKind.i64 i14)]), (1, DV.val false [C.d (D.int IntKind.i64 i15)]), (2, DV.val false [C.d (D.int IntKind.i64 i16)]), (6, DV.val false [C.d (D.bool b17)]), (7, DV.val false [C.d (D.int IntKind.i64 i18)]), (8, DV.val false [C.arr 0]), (25, DV.val false [C.d (D.int IntKind.i64 i19)]), (26, DV.val false [C.d (D.int IntKind.i64 i20)]), (27, DV.val false [C.d (D.bool b21)])] [Ob.arr false false 29 2 l22])
theorem ra4_0_0 (fx : Fx (DV × Heap)) (i14 : Int) (i15 : Int) (i16 : Int) (b17 : Bool) (i18 : Int) (i19 : Int) (i20 : Int) (b21 : Bool) (l22 : List (List D)) : contAt T kt fx (frOf T 4 Try.f4 0) 0 0 (bodyOf Try.f4) (endK T 4 Try.f4 0) (Ex.exit 0) (sx4_0_0 i14 i15 i16 b17 i18 i19 i20 b21 l22) = ga4_0_0 fx i14 i15 i16 b17 i18 i19 i20 b21 l22 := by kernel_rfl
end Go.Proofs.TryI
