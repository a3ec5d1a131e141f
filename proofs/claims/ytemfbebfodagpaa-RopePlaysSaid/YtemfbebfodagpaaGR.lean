/- Part of a proof that the laws of this seat return true: a machine over plain data (Idl) that is sound for the given model, and its runs. Conditions: none. -/
import Derived.Test.YtemfbebfodagpaaKOk2
import Derived.Test.YtemfbebfodagpaaTabRO
import Derived.Test.YtemfbebfodagpaaTabRK
set_option linter.all false
set_option linter.all false
set_option maxRecDepth 100000
namespace Go.Proofs.TryI
open Go Go.Idl Go.Proofs
/-! gloss/rope.Of -/
noncomputable def g8 (fx : Fx (DV × Heap)) (l0 : List (List D)) : Option (DV × Heap) :=
  cond ((↑(List.length l0) : Int) == 0)
    (some ((DV.val true [C.d D.nilp], [])))
    (fx.chk true
      (fx.chk (true && (decide (0 ≤ IntKind.wrap IntKind.i64 (Int.tdiv (↑(List.length l0) : Int) 2)) && decide (IntKind.wrap IntKind.i64 (Int.tdiv (↑(List.length l0) : Int) 2) ≤ (↑(List.length l0) : Int))))
        (fx.call (8) ([DV.val false [C.d (D.slice 2 (List.drop 0 (List.take (Int.toNat (IntKind.wrap IntKind.i64 (Int.tdiv (↑(List.length l0) : Int) 2))) l0)))]]) ([]) (RS.mk [(true, [CSh.d Sh.any])] []) (fun ((((d1 : D), _), _), _) =>
          fx.elp l0 (IntKind.wrap IntKind.i64 (Int.tdiv (↑(List.length l0) : Int) 2)) (fun (c2 : List D) =>
            fx.ptr (D.ptr c2) (fun (c3 : List D) =>
              fx.load c3 ([Sh.int IntKind.i64, Sh.cpx]) (fun ((i4 : Int), (((n5 : Nat), (n6 : Nat)), _)) =>
                fx.chk (decide (0 ≤ IntKind.wrap IntKind.i64 (IntKind.wrap IntKind.i64 (Int.tdiv (↑(List.length l0) : Int) 2) + 1)) && (decide (IntKind.wrap IntKind.i64 (IntKind.wrap IntKind.i64 (Int.tdiv (↑(List.length l0) : Int) 2) + 1) ≤ (↑(List.length l0) : Int)) && decide ((↑(List.length l0) : Int) ≤ (↑(List.length l0) : Int))))
                  (fx.call (8) ([DV.val false [C.d (D.slice 2 (List.drop (Int.toNat (IntKind.wrap IntKind.i64 (IntKind.wrap IntKind.i64 (Int.tdiv (↑(List.length l0) : Int) 2) + 1))) (List.take (Int.toNat (↑(List.length l0) : Int)) l0)))]]) ([]) (RS.mk [(true, [CSh.d Sh.any])] []) (fun ((((d7 : D), _), _), _) =>
                    fx.call (24) ([DV.val false [C.d d1], DV.val true [C.d (D.int IntKind.i64 i4), C.d (D.cpx FloatKind.f64 n5 n6)], DV.val false [C.d d7]]) ([]) (RS.mk [(false, [CSh.d Sh.any])] []) (fun ((((d8 : D), _), _), _) =>
                      some ((DV.val true [C.d d8], []))))))))))))
theorem r8 (fx : Fx (DV × Heap)) (l0 : List (List D)) : fnK T kt fx 8 Try.f8 ([DV.val false [C.d (D.slice 2 l0)]]) ([]) = g8 fx l0 := by kernel_rfl
/-! gloss/mark.Of -/
noncomputable def g9 (fx : Fx (DV × Heap)) (i0 : Int) (i1 : Int) : Option (DV × Heap) :=
  some ((DV.val false [C.d (D.cpx FloatKind.f64 (FloatKind.nearest FloatKind.f64 i0) (FloatKind.nearest FloatKind.f64 i1))], []))
theorem r9 (fx : Fx (DV × Heap)) (i0 : Int) (i1 : Int) : fnK T kt fx 9 Try.f9 ([DV.val false [C.d (D.int IntKind.i64 i0)], DV.val false [C.d (D.int IntKind.i64 i1)]]) ([]) = g9 fx i0 i1 := by kernel_rfl
/-! (gloss/rope.Rope).Split -/
noncomputable def g10 (fx : Fx (DV × Heap)) (d0 : D) (i1 : Int) : Option (DV × Heap) :=
  fx.call (14) ([DV.val true [C.d d0]]) ([]) (RS.mk [(false, [CSh.d (Sh.int IntKind.i64)])] []) (fun ((((i2 : Int), _), _), _) =>
    fx.call (25) ([DV.val false [C.d d0], DV.val false [C.d (D.int IntKind.i64 (if true = true then if (if false = true then if i2 > i1 then i2 else i1 else if i2 < i1 then i2 else i1) > 0 then if false = true then if i2 > i1 then i2 else i1 else if i2 < i1 then i2 else i1 else 0 else if (if false = true then if i2 > i1 then i2 else i1 else if i2 < i1 then i2 else i1) < 0 then if false = true then if i2 > i1 then i2 else i1 else if i2 < i1 then i2 else i1 else 0))]]) ([]) (RS.mk [(false, [CSh.d Sh.any]), (false, [CSh.d Sh.any])] []) (fun ((((d3 : D), _), (((d4 : D), _), _)), _) =>
      some ((DV.tup [(true, [C.d d3]), (true, [C.d d4])], []))))
theorem r10 (fx : Fx (DV × Heap)) (d0 : D) (i1 : Int) : fnK T kt fx 10 Try.f10 ([DV.val true [C.d d0], DV.val false [C.d (D.int IntKind.i64 i1)]]) ([]) = g10 fx d0 i1 := by kernel_rfl
/-! gloss/rope.Join -/
noncomputable def g11 (fx : Fx (DV × Heap)) (l0 : List (List D)) : Option (DV × Heap) :=
  fx.lp (0) (bodyAt 0 0 (bodyOf Try.f11)) (St.mk [(0, DV.val false [C.d (D.slice 1 l0)]), (2, DV.val false [C.ptr 0 0]), (3, DV.val false [C.ptr 1 0]), (6, DV.val false [C.d (D.slice 1 l0)]), (7, DV.val false [C.d (D.int IntKind.i64 (↑(List.length l0) : Int))]), (8, DV.val false [C.d (D.int IntKind.i64 0)])] [Ob.box false [C.d D.nilp], Ob.box false [C.d D.nilp]]) (contAt T kt fx (frOf T 11 Try.f11 0) 0 0 (bodyOf Try.f11) (endK T 11 Try.f11 0))
theorem r11 (fx : Fx (DV × Heap)) (l0 : List (List D)) : fnK T kt fx 11 Try.f11 ([DV.val false [C.d (D.slice 1 l0)]]) ([]) = g11 fx l0 := by kernel_rfl
abbrev st11_0 (l1 : List (List D)) (l2 : List (List D)) (i3 : Int) (i4 : Int) (d5 : D) (d6 : D) : St := (St.mk [(0, DV.val false [C.d (D.slice 1 l1)]), (2, DV.val false [C.ptr 0 0]), (3, DV.val false [C.ptr 1 0]), (6, DV.val false [C.d (D.slice 1 l2)]), (7, DV.val false [C.d (D.int IntKind.i64 i3)]), (8, DV.val false [C.d (D.int IntKind.i64 i4)])] [Ob.box false [C.d d5], Ob.box false [C.d d6]])
noncomputable def gl11_0 {R : Type} (fx : Fx R) (rec : St → Option R) (kk : Ex → St → Option R) (l1 : List (List D)) (l2 : List (List D)) (i3 : Int) (i4 : Int) (d5 : D) (d6 : D) : Option R :=
  cond (decide (i4 < i3))
    (fx.elp l2 i4 (fun (c7 : List D) =>
      fx.ptr (D.ptr c7) (fun (c8 : List D) =>
        fx.load c8 ([Sh.any]) (fun ((d9 : D), _) =>
          fx.call (26) ([DV.val false [C.d d6], DV.val false [C.d d9]]) ([]) (RS.mk [(false, [CSh.d Sh.any])] []) (fun ((((d10 : D), _), _), _) =>
            rec (St.mk [(0, DV.val false [C.d (D.slice 1 l1)]), (2, DV.val false [C.ptr 0 0]), (3, DV.val false [C.ptr 1 0]), (6, DV.val false [C.d (D.slice 1 l2)]), (7, DV.val false [C.d (D.int IntKind.i64 i3)]), (8, DV.val false [C.d (D.int IntKind.i64 (IntKind.wrap IntKind.i64 (i4 + 1)))])] [Ob.box false [C.d d5], Ob.box false [C.d d10]]))))))
    (kk (Ex.exit 0) (St.mk [(0, DV.val false [C.d (D.slice 1 l1)]), (2, DV.val false [C.ptr 0 0]), (3, DV.val false [C.ptr 1 0]), (6, DV.val false [C.d (D.slice 1 l2)]), (7, DV.val false [C.d (D.int IntKind.i64 i3)]), (8, DV.val false [C.d (D.int IntKind.i64 i4)]), (9, DV.val false [C.d (D.bool (decide (i4 < i3)))])] [Ob.box false [C.d d5], Ob.box false [C.d d6]]))
theorem rl11_0 {R : Type} (fx : Fx R) (rec : St → Option R) (kk : Ex → St → Option R) (l1 : List (List D)) (l2 : List (List D)) (i3 : Int) (i4 : Int) (d5 : D) (d6 : D) : runK T kt fx (frOf T 11 Try.f11 0) 0 (bodyAt 0 0 (bodyOf Try.f11)) (st11_0 l1 l2 i3 i4 d5 d6) (roundK (frOf T 11 Try.f11 0) 0 ([0, 2, 3, 6, 7, 8]) rec kk) = gl11_0 fx rec kk l1 l2 i3 i4 d5 d6 := by kernel_rfl
noncomputable def ga11_0_0 (fx : Fx (DV × Heap)) (l11 : List (List D)) (l12 : List (List D)) (i13 : Int) (i14 : Int) (b15 : Bool) (d16 : D) (d17 : D) : Option (DV × Heap) :=
  some ((DV.val true [C.d d17], []))
abbrev sx11_0_0 (l11 : List (List D)) (l12 : List (List D)) (i13 : Int) (i14 : Int) (b15 : Bool) (d16 : D) (d17 : D) : St := (St.mk [(0, DV.val false [C.d (D.slice 1 l11)]), (2, DV.val false [C.ptr 0 0]), (3, DV.val false [C.ptr 1 0]), (6, DV.val false [C.d (D.slice 1 l12)]), (7, DV.val false [C.d (D.int IntKind.i64 i13)]), (8, DV.val false [C.d (D.int IntKind.i64 i14)]), (9, DV.val false [C.d (D.bool b15)])] [Ob.box false [C.d d16], Ob.box false [C.d d17]])
theorem ra11_0_0 (fx : Fx (DV × Heap)) (l11 : List (List D)) (l12 : List (List D)) (i13 : Int) (i14 : Int) (b15 : Bool) (d16 : D) (d17 : D) : contAt T kt fx (frOf T 11 Try.f11 0) 0 0 (bodyOf Try.f11) (endK T 11 Try.f11 0) (Ex.exit 0) (sx11_0_0 l11 l12 i13 i14 b15 d16 d17) = ga11_0_0 fx l11 l12 i13 i14 b15 d16 d17 := by kernel_rfl
/-! (gloss/rope.Rope).Items -/
noncomputable def g12 (fx : Fx (DV × Heap)) (d0 : D) : Option (DV × Heap) :=
  fx.call (27) ([DV.val false [C.arr 0], DV.val false [C.d d0]]) ([Ob.arr false false 29 2 []]) (RS.mk [(false, [CSh.ref (C.arr 1)])] [OSh.dead, OSh.arr false false 29 2]) (fun (((_, _), _), (_, ((l1 : List (List D)), _))) =>
    some ((DV.val false [C.d (D.slice 2 l1)], [])))
theorem r12 (fx : Fx (DV × Heap)) (d0 : D) : fnK T kt fx 12 Try.f12 ([DV.val true [C.d d0]]) ([]) = g12 fx d0 := by kernel_rfl
/-! (gloss/rope.Rope).Line -/
noncomputable def g13 (fx : Fx (DV × Heap)) (d0 : D) (i1 : Int) : Option (DV × Heap) :=
  fx.lp (0) (bodyAt 0 0 (bodyOf Try.f13)) (St.mk [(0, DV.val true [C.d d0]), (1, DV.val false [C.d (D.int IntKind.i64 i1)]), (2, DV.val false [C.ptr 0 0]), (4, DV.val false [C.d (D.int IntKind.i64 0)]), (5, DV.val false [C.d (D.cpx FloatKind.f64 0 0)]), (6, DV.val false [C.d (D.int IntKind.i64 0)]), (7, DV.val false [C.d (D.cpx FloatKind.f64 0 0)]), (8, DV.val false [C.d d0])] [Ob.box false [C.d d0]]) (contAt T kt fx (frOf T 13 Try.f13 0) 0 0 (bodyOf Try.f13) (endK T 13 Try.f13 0))
theorem r13 (fx : Fx (DV × Heap)) (d0 : D) (i1 : Int) : fnK T kt fx 13 Try.f13 ([DV.val true [C.d d0], DV.val false [C.d (D.int IntKind.i64 i1)]]) ([]) = g13 fx d0 i1 := by kernel_rfl
abbrev st13_0 (d2 : D) (i3 : Int) (i4 : Int) (n5 : Nat) (n6 : Nat) (i7 : Int) (n8 : Nat) (n9 : Nat) (d10 : D) (d11 : D) : St := (St.mk [(0, DV.val true [C.d d2]), (1, DV.val false [C.d (D.int IntKind.i64 i3)]), (2, DV.val false [C.ptr 0 0]), (4, DV.val false [C.d (D.int IntKind.i64 i4)]), (5, DV.val false [C.d (D.cpx FloatKind.f64 n5 n6)]), (6, DV.val false [C.d (D.int IntKind.i64 i7)]), (7, DV.val false [C.d (D.cpx FloatKind.f64 n8 n9)]), (8, DV.val false [C.d d10])] [Ob.box false [C.d d11]])
noncomputable def gl13_0 {R : Type} (fx : Fx R) (rec : St → Option R) (kk : Ex → St → Option R) (d2 : D) (i3 : Int) (i4 : Int) (n5 : Nat) (n6 : Nat) (i7 : Int) (n8 : Nat) (n9 : Nat) (d10 : D) (d11 : D) : Option R :=
  fx.isnil d10
    (kk (Ex.exit 0) (St.mk [(0, DV.val true [C.d d2]), (1, DV.val false [C.d (D.int IntKind.i64 i3)]), (2, DV.val false [C.ptr 0 0]), (4, DV.val false [C.d (D.int IntKind.i64 i4)]), (5, DV.val false [C.d (D.cpx FloatKind.f64 n5 n6)]), (6, DV.val false [C.d (D.int IntKind.i64 i7)]), (7, DV.val false [C.d (D.cpx FloatKind.f64 n8 n9)]), (8, DV.val false [C.d d10]), (14, DV.val false [C.d (D.bool false)])] [Ob.box false [C.d d11]]))
    (fx.nn d10
      (fx.ptr d10 (fun (c12 : List D) =>
        fx.ptr (D.ptr (List.drop 0 c12)) (fun (c13 : List D) =>
          fx.load c13 ([Sh.any]) (fun ((d14 : D), _) =>
            fx.call (28) ([DV.val false [C.d d14]]) ([]) (RS.mk [(false, [CSh.d Sh.cpx])] []) (fun (((((n15 : Nat), (n16 : Nat)), _), _), _) =>
              fx.call (18) ([DV.val false [C.d (D.slice 1 [[D.cpx FloatKind.f64 n8 n9], [D.cpx FloatKind.f64 n15 n16]])]]) ([]) (RS.mk [(false, [CSh.d Sh.cpx])] []) (fun (((((n17 : Nat), (n18 : Nat)), _), _), _) =>
                fx.nn d10
                  (fx.ptr d10 (fun (c19 : List D) =>
                    fx.ptr (D.ptr (List.drop 2 c19)) (fun (c20 : List D) =>
                      fx.ptr (D.ptr (List.drop 1 c20)) (fun (c21 : List D) =>
                        fx.load c21 ([Sh.cpx]) (fun (((n22 : Nat), (n23 : Nat)), _) =>
                          fx.call (18) ([DV.val false [C.d (D.slice 1 [[D.cpx FloatKind.f64 n17 n18], [D.cpx FloatKind.f64 n22 n23]])]]) ([]) (RS.mk [(false, [CSh.d Sh.cpx])] []) (fun (((((n24 : Nat), (n25 : Nat)), _), _), _) =>
                            fx.nn d10
                              (fx.ptr d10 (fun (c26 : List D) =>
                                fx.ptr (D.ptr (List.drop 0 c26)) (fun (c27 : List D) =>
                                  fx.load c27 ([Sh.any]) (fun ((d28 : D), _) =>
                                    fx.isnil d28
                                      (fx.call (22) ([DV.val false [C.d (D.cpx FloatKind.f64 n24 n25)]]) ([]) (RS.mk [(false, [CSh.d (Sh.int IntKind.i64)])] []) (fun ((((i29 : Int), _), _), _) =>
                                        cond (decide (i29 > i3))
                                          (fx.nn d10
                                            (fx.ptr d10 (fun (c30 : List D) =>
                                              fx.ptr (D.ptr (List.drop 0 c30)) (fun (c31 : List D) =>
                                                fx.load c31 ([Sh.any]) (fun ((d32 : D), _) =>
                                                  fx.call (29) ([DV.val false [C.d d32]]) ([]) (RS.mk [(false, [CSh.d (Sh.int IntKind.i64)])] []) (fun ((((i33 : Int), _), _), _) =>
                                                    kk Ex.ret (St.mk [(0, DV.val true [C.d d2]), (1, DV.val false [C.d (D.int IntKind.i64 i3)]), (2, DV.val false [C.ptr 0 0]), (4, DV.val false [C.d (D.int IntKind.i64 (IntKind.wrap IntKind.i64 (i7 + i33)))]), (5, DV.val false [C.d (D.cpx FloatKind.f64 n17 n18)]), (6, DV.val false [C.d (D.int IntKind.i64 i7)]), (7, DV.val false [C.d (D.cpx FloatKind.f64 n8 n9)]), (8, DV.val false [C.d d10]), (9, DV.val false [C.d (D.cpx FloatKind.f64 n17 n18)]), (10, DV.val false [C.d (D.cpx FloatKind.f64 n24 n25)]), (14, DV.val false [C.d (D.bool true)]), (44, DV.val false [C.d (D.bool false)]), (60, DV.val false [C.d (D.bool (decide (i29 > i3)))])] [Ob.box false [C.d d11], Ob.arr true false 26 1 [[D.cpx FloatKind.f64 n8 n9], [D.cpx FloatKind.f64 n15 n16]], Ob.arr true false 26 1 [[D.cpx FloatKind.f64 n17 n18], [D.cpx FloatKind.f64 n22 n23]]])))))))
                                          (fx.nn d10
                                            (fx.ptr d10 (fun (c34 : List D) =>
                                              fx.ptr (D.ptr (List.drop 0 c34)) (fun (c35 : List D) =>
                                                fx.load c35 ([Sh.any]) (fun ((d36 : D), _) =>
                                                  fx.call (29) ([DV.val false [C.d d36]]) ([]) (RS.mk [(false, [CSh.d (Sh.int IntKind.i64)])] []) (fun ((((i37 : Int), _), _), _) =>
                                                    fx.nn d10
                                                      (fx.ptr d10 (fun (c38 : List D) =>
                                                        fx.ptr (D.ptr (List.drop 1 c38)) (fun (c39 : List D) =>
                                                          fx.load c39 ([Sh.any]) (fun ((d40 : D), _) =>
                                                            rec (St.mk [(0, DV.val true [C.d d2]), (1, DV.val false [C.d (D.int IntKind.i64 i3)]), (2, DV.val false [C.ptr 0 0]), (4, DV.val false [C.d (D.int IntKind.i64 i4)]), (5, DV.val false [C.d (D.cpx FloatKind.f64 n5 n6)]), (6, DV.val false [C.d (D.int IntKind.i64 (IntKind.wrap IntKind.i64 (IntKind.wrap IntKind.i64 (i7 + i37) + 1)))]), (7, DV.val false [C.d (D.cpx FloatKind.f64 n24 n25)]), (8, DV.val false [C.d d40])] [Ob.box false [C.d d11]])))))))))))))
                                      (fx.call (22) ([DV.val false [C.d (D.cpx FloatKind.f64 n17 n18)]]) ([]) (RS.mk [(false, [CSh.d (Sh.int IntKind.i64)])] []) (fun ((((i41 : Int), _), _), _) =>
                                        cond (decide (i41 > i3))
                                          (fx.nn d10
                                            (fx.ptr d10 (fun (c42 : List D) =>
                                              fx.ptr (D.ptr (List.drop 0 c42)) (fun (c43 : List D) =>
                                                fx.load c43 ([Sh.any]) (fun ((d44 : D), _) =>
                                                  rec (St.mk [(0, DV.val true [C.d d2]), (1, DV.val false [C.d (D.int IntKind.i64 i3)]), (2, DV.val false [C.ptr 0 0]), (4, DV.val false [C.d (D.int IntKind.i64 i4)]), (5, DV.val false [C.d (D.cpx FloatKind.f64 n5 n6)]), (6, DV.val false [C.d (D.int IntKind.i64 i7)]), (7, DV.val false [C.d (D.cpx FloatKind.f64 n8 n9)]), (8, DV.val false [C.d d44])] [Ob.box false [C.d d11]]))))))
                                          (fx.call (22) ([DV.val false [C.d (D.cpx FloatKind.f64 n24 n25)]]) ([]) (RS.mk [(false, [CSh.d (Sh.int IntKind.i64)])] []) (fun ((((i45 : Int), _), _), _) =>
                                            cond (decide (i45 > i3))
                                              (fx.nn d10
                                                (fx.ptr d10 (fun (c46 : List D) =>
                                                  fx.ptr (D.ptr (List.drop 0 c46)) (fun (c47 : List D) =>
                                                    fx.load c47 ([Sh.any]) (fun ((d48 : D), _) =>
                                                      fx.call (29) ([DV.val false [C.d d48]]) ([]) (RS.mk [(false, [CSh.d (Sh.int IntKind.i64)])] []) (fun ((((i49 : Int), _), _), _) =>
                                                        kk Ex.ret (St.mk [(0, DV.val true [C.d d2]), (1, DV.val false [C.d (D.int IntKind.i64 i3)]), (2, DV.val false [C.ptr 0 0]), (4, DV.val false [C.d (D.int IntKind.i64 (IntKind.wrap IntKind.i64 (i7 + i49)))]), (5, DV.val false [C.d (D.cpx FloatKind.f64 n17 n18)]), (6, DV.val false [C.d (D.int IntKind.i64 i7)]), (7, DV.val false [C.d (D.cpx FloatKind.f64 n8 n9)]), (8, DV.val false [C.d d10]), (9, DV.val false [C.d (D.cpx FloatKind.f64 n17 n18)]), (10, DV.val false [C.d (D.cpx FloatKind.f64 n24 n25)]), (14, DV.val false [C.d (D.bool true)]), (44, DV.val false [C.d (D.bool (decide (i41 > i3)))]), (60, DV.val false [C.d (D.bool (decide (i45 > i3)))])] [Ob.box false [C.d d11], Ob.arr true false 26 1 [[D.cpx FloatKind.f64 n8 n9], [D.cpx FloatKind.f64 n15 n16]], Ob.arr true false 26 1 [[D.cpx FloatKind.f64 n17 n18], [D.cpx FloatKind.f64 n22 n23]]])))))))
                                              (fx.nn d10
                                                (fx.ptr d10 (fun (c50 : List D) =>
                                                  fx.ptr (D.ptr (List.drop 0 c50)) (fun (c51 : List D) =>
                                                    fx.load c51 ([Sh.any]) (fun ((d52 : D), _) =>
                                                      fx.call (29) ([DV.val false [C.d d52]]) ([]) (RS.mk [(false, [CSh.d (Sh.int IntKind.i64)])] []) (fun ((((i53 : Int), _), _), _) =>
                                                        fx.nn d10
                                                          (fx.ptr d10 (fun (c54 : List D) =>
                                                            fx.ptr (D.ptr (List.drop 1 c54)) (fun (c55 : List D) =>
                                                              fx.load c55 ([Sh.any]) (fun ((d56 : D), _) =>
                                                                rec (St.mk [(0, DV.val true [C.d d2]), (1, DV.val false [C.d (D.int IntKind.i64 i3)]), (2, DV.val false [C.ptr 0 0]), (4, DV.val false [C.d (D.int IntKind.i64 i4)]), (5, DV.val false [C.d (D.cpx FloatKind.f64 n5 n6)]), (6, DV.val false [C.d (D.int IntKind.i64 (IntKind.wrap IntKind.i64 (IntKind.wrap IntKind.i64 (i7 + i53) + 1)))]), (7, DV.val false [C.d (D.cpx FloatKind.f64 n24 n25)]), (8, DV.val false [C.d d56])] [Ob.box false [C.d d11]]))))))))))))))))))))))))))))))))
theorem rl13_0 {R : Type} (fx : Fx R) (rec : St → Option R) (kk : Ex → St → Option R) (d2 : D) (i3 : Int) (i4 : Int) (n5 : Nat) (n6 : Nat) (i7 : Int) (n8 : Nat) (n9 : Nat) (d10 : D) (d11 : D) : runK T kt fx (frOf T 13 Try.f13 0) 0 (bodyAt 0 0 (bodyOf Try.f13)) (st13_0 d2 i3 i4 n5 n6 i7 n8 n9 d10 d11) (roundK (frOf T 13 Try.f13 0) 0 ([0, 1, 2, 4, 5, 6, 7, 8]) rec kk) = gl13_0 fx rec kk d2 i3 i4 n5 n6 i7 n8 n9 d10 d11 := by kernel_rfl
noncomputable def ga13_0_0 (fx : Fx (DV × Heap)) (d57 : D) (i58 : Int) (i59 : Int) (n60 : Nat) (n61 : Nat) (i62 : Int) (n63 : Nat) (n64 : Nat) (d65 : D) (b66 : Bool) (d67 : D) : Option (DV × Heap) :=
  some ((DV.tup [(false, [C.d (D.int IntKind.i64 i62)]), (false, [C.d (D.cpx FloatKind.f64 n63 n64)])], []))
abbrev sx13_0_0 (d57 : D) (i58 : Int) (i59 : Int) (n60 : Nat) (n61 : Nat) (i62 : Int) (n63 : Nat) (n64 : Nat) (d65 : D) (b66 : Bool) (d67 : D) : St := (St.mk [(0, DV.val true [C.d d57]), (1, DV.val false [C.d (D.int IntKind.i64 i58)]), (2, DV.val false [C.ptr 0 0]), (4, DV.val false [C.d (D.int IntKind.i64 i59)]), (5, DV.val false [C.d (D.cpx FloatKind.f64 n60 n61)]), (6, DV.val false [C.d (D.int IntKind.i64 i62)]), (7, DV.val false [C.d (D.cpx FloatKind.f64 n63 n64)]), (8, DV.val false [C.d d65]), (14, DV.val false [C.d (D.bool b66)])] [Ob.box false [C.d d67]])
theorem ra13_0_0 (fx : Fx (DV × Heap)) (d57 : D) (i58 : Int) (i59 : Int) (n60 : Nat) (n61 : Nat) (i62 : Int) (n63 : Nat) (n64 : Nat) (d65 : D) (b66 : Bool) (d67 : D) : contAt T kt fx (frOf T 13 Try.f13 0) 0 0 (bodyOf Try.f13) (endK T 13 Try.f13 0) (Ex.exit 0) (sx13_0_0 d57 i58 i59 n60 n61 i62 n63 n64 d65 b66 d67) = ga13_0_0 fx d57 i58 i59 n60 n61 i62 n63 n64 d65 b66 d67 := by kernel_rfl
noncomputable def ga13_0_1 (fx : Fx (DV × Heap)) (d68 : D) (i69 : Int) (i70 : Int) (n71 : Nat) (n72 : Nat) (i73 : Int) (n74 : Nat) (n75 : Nat) (d76 : D) (n77 : Nat) (n78 : Nat) (n79 : Nat) (n80 : Nat) (b81 : Bool) (b82 : Bool) (b83 : Bool) (d84 : D) (l85 : List (List D)) (l86 : List (List D)) : Option (DV × Heap) :=
  some ((DV.tup [(false, [C.d (D.int IntKind.i64 i70)]), (false, [C.d (D.cpx FloatKind.f64 n71 n72)])], []))
abbrev sx13_0_1 (d68 : D) (i69 : Int) (i70 : Int) (n71 : Nat) (n72 : Nat) (i73 : Int) (n74 : Nat) (n75 : Nat) (d76 : D) (n77 : Nat) (n78 : Nat) (n79 : Nat) (n80 : Nat) (b81 : Bool) (b82 : Bool) (b83 : Bool) (d84 : D) (l85 : List (List D)) (l86 : List (List D)) : St := (St.mk [(0, DV.val true [C.d d68]), (1, DV.val false [C.d (D.int IntKind.i64 i69)]), (2, DV.val false [C.ptr 0 0]), (4, DV.val false [C.d (D.int IntKind.i64 i70)]), (5, DV.val false [C.d (D.cpx FloatKind.f64 n71 n72)]), (6, DV.val false [C.d (D.int IntKind.i64 i73)]), (7, DV.val false [C.d (D.cpx FloatKind.f64 n74 n75)]), (8, DV.val false [C.d d76]), (9, DV.val false [C.d (D.cpx FloatKind.f64 n77 n78)]), (10, DV.val false [C.d (D.cpx FloatKind.f64 n79 n80)]), (14, DV.val false [C.d (D.bool b81)]), (44, DV.val false [C.d (D.bool b82)]), (60, DV.val false [C.d (D.bool b83)])] [Ob.box false [C.d d84], Ob.arr true false 26 1 l85, Ob.arr true false 26 1 l86])
theorem ra13_0_1 (fx : Fx (DV × Heap)) (d68 : D) (i69 : Int) (i70 : Int) (n71 : Nat) (n72 : Nat) (i73 : Int) (n74 : Nat) (n75 : Nat) (d76 : D) (n77 : Nat) (n78 : Nat) (n79 : Nat) (n80 : Nat) (b81 : Bool) (b82 : Bool) (b83 : Bool) (d84 : D) (l85 : List (List D)) (l86 : List (List D)) : contAt T kt fx (frOf T 13 Try.f13 0) 0 0 (bodyOf Try.f13) (endK T 13 Try.f13 0) (Ex.ret) (sx13_0_1 d68 i69 i70 n71 n72 i73 n74 n75 d76 n77 n78 n79 n80 b81 b82 b83 d84 l85 l86) = ga13_0_1 fx d68 i69 i70 n71 n72 i73 n74 n75 d76 n77 n78 n79 n80 b81 b82 b83 d84 l85 l86 := by kernel_rfl
noncomputable def ga13_0_2 (fx : Fx (DV × Heap)) (d87 : D) (i88 : Int) (i89 : Int) (n90 : Nat) (n91 : Nat) (i92 : Int) (n93 : Nat) (n94 : Nat) (d95 : D) (n96 : Nat) (n97 : Nat) (n98 : Nat) (n99 : Nat) (b100 : Bool) (b101 : Bool) (b102 : Bool) (d103 : D) (l104 : List (List D)) (l105 : List (List D)) : Option (DV × Heap) :=
  some ((DV.tup [(false, [C.d (D.int IntKind.i64 i89)]), (false, [C.d (D.cpx FloatKind.f64 n90 n91)])], []))
abbrev sx13_0_2 (d87 : D) (i88 : Int) (i89 : Int) (n90 : Nat) (n91 : Nat) (i92 : Int) (n93 : Nat) (n94 : Nat) (d95 : D) (n96 : Nat) (n97 : Nat) (n98 : Nat) (n99 : Nat) (b100 : Bool) (b101 : Bool) (b102 : Bool) (d103 : D) (l104 : List (List D)) (l105 : List (List D)) : St := (St.mk [(0, DV.val true [C.d d87]), (1, DV.val false [C.d (D.int IntKind.i64 i88)]), (2, DV.val false [C.ptr 0 0]), (4, DV.val false [C.d (D.int IntKind.i64 i89)]), (5, DV.val false [C.d (D.cpx FloatKind.f64 n90 n91)]), (6, DV.val false [C.d (D.int IntKind.i64 i92)]), (7, DV.val false [C.d (D.cpx FloatKind.f64 n93 n94)]), (8, DV.val false [C.d d95]), (9, DV.val false [C.d (D.cpx FloatKind.f64 n96 n97)]), (10, DV.val false [C.d (D.cpx FloatKind.f64 n98 n99)]), (14, DV.val false [C.d (D.bool b100)]), (44, DV.val false [C.d (D.bool b101)]), (60, DV.val false [C.d (D.bool b102)])] [Ob.box false [C.d d103], Ob.arr true false 26 1 l104, Ob.arr true false 26 1 l105])
theorem ra13_0_2 (fx : Fx (DV × Heap)) (d87 : D) (i88 : Int) (i89 : Int) (n90 : Nat) (n91 : Nat) (i92 : Int) (n93 : Nat) (n94 : Nat) (d95 : D) (n96 : Nat) (n97 : Nat) (n98 : Nat) (n99 : Nat) (b100 : Bool) (b101 : Bool) (b102 : Bool) (d103 : D) (l104 : List (List D)) (l105 : List (List D)) : contAt T kt fx (frOf T 13 Try.f13 0) 0 0 (bodyOf Try.f13) (endK T 13 Try.f13 0) (Ex.ret) (sx13_0_2 d87 i88 i89 n90 n91 i92 n93 n94 d95 n96 n97 n98 n99 b100 b101 b102 d103 l104 l105) = ga13_0_2 fx d87 i88 i89 n90 n91 i92 n93 n94 d95 n96 n97 n98 n99 b100 b101 b102 d103 l104 l105 := by kernel_rfl
/-! (gloss/rope.Rope).Len -/
noncomputable def g14 (fx : Fx (DV × Heap)) (d0 : D) : Option (DV × Heap) :=
  fx.call (29) ([DV.val false [C.d d0]]) ([]) (RS.mk [(false, [CSh.d (Sh.int IntKind.i64)])] []) (fun ((((i1 : Int), _), _), _) =>
    some ((DV.val false [C.d (D.int IntKind.i64 i1)], [])))
theorem r14 (fx : Fx (DV × Heap)) (d0 : D) : fnK T kt fx 14 Try.f14 ([DV.val true [C.d d0]]) ([]) = g14 fx d0 := by kernel_rfl
/-! gloss/glossbook.Within -/
noncomputable def g15 (fx : Fx (DV × Heap)) (i0 : Int) (i1 : Int) (i2 : Int) : Option (DV × Heap) :=
  fx.chk (!IntKind.wrap IntKind.i64 (IntKind.wrap IntKind.i64 (i2 - i1) + 1) == 0)
    (cond (decide (Int.tmod i0 (IntKind.wrap IntKind.i64 (IntKind.wrap IntKind.i64 (i2 - i1) + 1)) < 0))
      (some ((DV.val false [C.d (D.int IntKind.i64 (IntKind.wrap IntKind.i64 (i1 + IntKind.wrap IntKind.i64 (IntKind.wrap IntKind.i64 (IntKind.wrap IntKind.i64 (Int.tmod i0 (IntKind.wrap IntKind.i64 (IntKind.wrap IntKind.i64 (i2 - i1) + 1)) + i2) - i1) + 1))))], [])))
      (some ((DV.val false [C.d (D.int IntKind.i64 (IntKind.wrap IntKind.i64 (i1 + Int.tmod i0 (IntKind.wrap IntKind.i64 (IntKind.wrap IntKind.i64 (i2 - i1) + 1)))))], []))))
theorem r15 (fx : Fx (DV × Heap)) (i0 : Int) (i1 : Int) (i2 : Int) : fnK T kt fx 15 Try.f15 ([DV.val false [C.d (D.int IntKind.i64 i0)], DV.val false [C.d (D.int IntKind.i64 i1)], DV.val false [C.d (D.int IntKind.i64 i2)]]) ([]) = g15 fx i0 i1 i2 := by kernel_rfl
/-! gloss/glossbook.Same[gloss/rope.Item] -/
noncomputable def g16 (fx : Fx (DV × Heap)) (l0 : List (List D)) (l1 : List (List D)) : Option (DV × Heap) :=
  cond ((↑(List.length l0) : Int) != (↑(List.length l1) : Int))
    (some ((DV.val false [C.d (D.bool false)], [])))
    (fx.lp (0) (bodyAt 0 0 (bodyOf Try.f16)) (St.mk [(0, DV.val false [C.d (D.slice 2 l0)]), (1, DV.val false [C.d (D.slice 2 l1)]), (4, DV.val false [C.d (D.bool false)]), (5, DV.val false [C.d (D.int IntKind.i64 0)]), (10, DV.val false [C.d (D.bool ((↑(List.length l0) : Int) != (↑(List.length l1) : Int)))])] []) (contAt T kt fx (frOf T 16 Try.f16 0) 0 0 (bodyOf Try.f16) (endK T 16 Try.f16 0)))
theorem r16 (fx : Fx (DV × Heap)) (l0 : List (List D)) (l1 : List (List D)) : fnK T kt fx 16 Try.f16 ([DV.val false [C.d (D.slice 2 l0)], DV.val false [C.d (D.slice 2 l1)]]) ([]) = g16 fx l0 l1 := by kernel_rfl
abbrev st16_0 (l2 : List (List D)) (l3 : List (List D)) (b4 : Bool) (i5 : Int) (b6 : Bool) : St := (St.mk [(0, DV.val false [C.d (D.slice 2 l2)]), (1, DV.val false [C.d (D.slice 2 l3)]), (4, DV.val false [C.d (D.bool b4)]), (5, DV.val false [C.d (D.int IntKind.i64 i5)]), (10, DV.val false [C.d (D.bool b6)])] [])
noncomputable def gl16_0 {R : Type} (fx : Fx R) (rec : St → Option R) (kk : Ex → St → Option R) (l2 : List (List D)) (l3 : List (List D)) (b4 : Bool) (i5 : Int) (b6 : Bool) : Option R :=
  cond (decide (i5 < (↑(List.length l2) : Int)))
    (fx.elp l2 i5 (fun (c7 : List D) =>
      fx.ptr (D.ptr c7) (fun (c8 : List D) =>
        fx.load c8 ([Sh.int IntKind.i64, Sh.cpx]) (fun ((i9 : Int), (((n10 : Nat), (n11 : Nat)), _)) =>
          fx.elp l3 i5 (fun (c12 : List D) =>
            fx.ptr (D.ptr c12) (fun (c13 : List D) =>
              fx.load c13 ([Sh.int IntKind.i64, Sh.cpx]) (fun ((i14 : Int), (((n15 : Nat), (n16 : Nat)), _)) =>
                cond (!(i9 == i14 && (floatEqB FloatKind.f64 n10 n15 && floatEqB FloatKind.f64 n11 n16 && true)))
                  (kk Ex.ret (St.mk [(0, DV.val false [C.d (D.slice 2 l2)]), (1, DV.val false [C.d (D.slice 2 l3)]), (4, DV.val false [C.d (D.bool false)]), (5, DV.val false [C.d (D.int IntKind.i64 i5)]), (10, DV.val false [C.d (D.bool b6)]), (14, DV.val false [C.d (D.bool (decide (i5 < (↑(List.length l2) : Int))))]), (25, DV.val false [C.d (D.bool !(i9 == i14 && (floatEqB FloatKind.f64 n10 n15 && floatEqB FloatKind.f64 n11 n16 && true)))])] []))
                  (rec (St.mk [(0, DV.val false [C.d (D.slice 2 l2)]), (1, DV.val false [C.d (D.slice 2 l3)]), (4, DV.val false [C.d (D.bool b4)]), (5, DV.val false [C.d (D.int IntKind.i64 (IntKind.wrap IntKind.i64 (i5 + 1)))]), (10, DV.val false [C.d (D.bool b6)])] [])))))))))
    (kk (Ex.exit 0) (St.mk [(0, DV.val false [C.d (D.slice 2 l2)]), (1, DV.val false [C.d (D.slice 2 l3)]), (4, DV.val false [C.d (D.bool b4)]), (5, DV.val false [C.d (D.int IntKind.i64 i5)]), (10, DV.val false [C.d (D.bool b6)]), (14, DV.val false [C.d (D.bool (decide (i5 < (↑(List.length l2) : Int))))])] []))
theorem rl16_0 {R : Type} (fx : Fx R) (rec : St → Option R) (kk : Ex → St → Option R) (l2 : List (List D)) (l3 : List (List D)) (b4 : Bool) (i5 : Int) (b6 : Bool) : runK T kt fx (frOf T 16 Try.f16 0) 0 (bodyAt 0 0 (bodyOf Try.f16)) (st16_0 l2 l3 b4 i5 b6) (roundK (frOf T 16 Try.f16 0) 0 ([0, 1, 4, 5, 10]) rec kk) = gl16_0 fx rec kk l2 l3 b4 i5 b6 := by kernel_rfl
noncomputable def ga16_0_0 (fx : Fx (DV × Heap)) (l17 : List (List D)) (l18 : List (List D)) (b19 : Bool) (i20 : Int) (b21 : Bool) (b22 : Bool) (b23 : Bool) : Option (DV × Heap) :=
  some ((DV.val false [C.d (D.bool b19)], []))
abbrev sx16_0_0 (l17 : List (List D)) (l18 : List (List D)) (b19 : Bool) (i20 : Int) (b21 : Bool) (b22 : Bool) (b23 : Bool) : St := (St.mk [(0, DV.val false [C.d (D.slice 2 l17)]), (1, DV.val false [C.d (D.slice 2 l18)]), (4, DV.val false [C.d (D.bool b19)]), (5, DV.val false [C.d (D.int IntKind.i64 i20)]), (10, DV.val false [C.d (D.bool b21)]), (14, DV.val false [C.d (D.bool b22)]), (25, DV.val false [C.d (D.bool b23)])] [])
theorem ra16_0_0 (fx : Fx (DV × Heap)) (l17 : List (List D)) (l18 : List (List D)) (b19 : Bool) (i20 : Int) (b21 : Bool) (b22 : Bool) (b23 : Bool) : contAt T kt fx (frOf T 16 Try.f16 0) 0 0 (bodyOf Try.f16) (endK T 16 Try.f16 0) (Ex.ret) (sx16_0_0 l17 l18 b19 i20 b21 b22 b23) = ga16_0_0 fx l17 l18 b19 i20 b21 b22 b23 := by kernel_rfl
noncomputable def ga16_0_1 (fx : Fx (DV × Heap)) (l24 : List (List D)) (l25 : List (List D)) (b26 : Bool) (i27 : Int) (b28 : Bool) (b29 : Bool) : Option (DV × Heap) :=
  some ((DV.val false [C.d (D.bool true)], []))
abbrev sx16_0_1 (l24 : List (List D)) (l25 : List (List D)) (b26 : Bool) (i27 : Int) (b28 : Bool) (b29 : Bool) : St := (St.mk [(0, DV.val false [C.d (D.slice 2 l24)]), (1, DV.val false [C.d (D.slice 2 l25)]), (4, DV.val false [C.d (D.bool b26)]), (5, DV.val false [C.d (D.int IntKind.i64 i27)]), (10, DV.val false [C.d (D.bool b28)]), (14, DV.val false [C.d (D.bool b29)])] [])
theorem ra16_0_1 (fx : Fx (DV × Heap)) (l24 : List (List D)) (l25 : List (List D)) (b26 : Bool) (i27 : Int) (b28 : Bool) (b29 : Bool) : contAt T kt fx (frOf T 16 Try.f16 0) 0 0 (bodyOf Try.f16) (endK T 16 Try.f16 0) (Ex.exit 0) (sx16_0_1 l24 l25 b26 i27 b28 b29) = ga16_0_1 fx l24 l25 b26 i27 b28 b29 := by kernel_rfl
/-! (gloss/rope.Rope).Mark -/
noncomputable def g17 (fx : Fx (DV × Heap)) (d0 : D) : Option (DV × Heap) :=
  fx.call (28) ([DV.val false [C.d d0]]) ([]) (RS.mk [(false, [CSh.d Sh.cpx])] []) (fun (((((n1 : Nat), (n2 : Nat)), _), _), _) =>
    some ((DV.val false [C.d (D.cpx FloatKind.f64 n1 n2)], [])))
theorem r17 (fx : Fx (DV × Heap)) (d0 : D) : fnK T kt fx 17 Try.f17 ([DV.val true [C.d d0]]) ([]) = g17 fx d0 := by kernel_rfl
/-! gloss/mark.Sum -/
noncomputable def g18 (fx : Fx (DV × Heap)) (l0 : List (List D)) : Option (DV × Heap) :=
  fx.lp (0) (bodyAt 0 0 (bodyOf Try.f18)) (St.mk [(0, DV.val false [C.d (D.slice 1 l0)]), (2, DV.val false [C.d (D.cpx FloatKind.f64 0 0)]), (3, DV.val false [C.d (D.cpx FloatKind.f64 0 0)]), (6, DV.val false [C.d (D.slice 1 l0)]), (7, DV.val false [C.d (D.int IntKind.i64 (↑(List.length l0) : Int))]), (8, DV.val false [C.d (D.int IntKind.i64 0)])] []) (contAt T kt fx (frOf T 18 Try.f18 0) 0 0 (bodyOf Try.f18) (endK T 18 Try.f18 0))
theorem r18 (fx : Fx (DV × Heap)) (l0 : List (List D)) : fnK T kt fx 18 Try.f18 ([DV.val false [C.d (D.slice 1 l0)]]) ([]) = g18 fx l0 := by kernel_rfl
abbrev st18_0 (l1 : List (List D)) (n2 : Nat) (n3 : Nat) (n4 : Nat) (n5 : Nat) (l6 : List (List D)) (i7 : Int) (i8 : Int) : St := (St.mk [(0, DV.val false [C.d (D.slice 1 l1)]), (2, DV.val false [C.d (D.cpx FloatKind.f64 n2 n3)]), (3, DV.val false [C.d (D.cpx FloatKind.f64 n4 n5)]), (6, DV.val false [C.d (D.slice 1 l6)]), (7, DV.val false [C.d (D.int IntKind.i64 i7)]), (8, DV.val false [C.d (D.int IntKind.i64 i8)])] [])
noncomputable def gl18_0 {R : Type} (fx : Fx R) (rec : St → Option R) (kk : Ex → St → Option R) (l1 : List (List D)) (n2 : Nat) (n3 : Nat) (n4 : Nat) (n5 : Nat) (l6 : List (List D)) (i7 : Int) (i8 : Int) : Option R :=
  cond (decide (i8 < i7))
    (fx.elp l6 i8 (fun (c9 : List D) =>
      fx.ptr (D.ptr c9) (fun (c10 : List D) =>
        fx.load c10 ([Sh.cpx]) (fun (((n11 : Nat), (n12 : Nat)), _) =>
          fx.fop false FloatKind.f64 n4 n11 (fun (n13 : Nat) =>
            fx.fop false FloatKind.f64 n5 n12 (fun (n14 : Nat) =>
              rec (St.mk [(0, DV.val false [C.d (D.slice 1 l1)]), (2, DV.val false [C.d (D.cpx FloatKind.f64 n2 n3)]), (3, DV.val false [C.d (D.cpx FloatKind.f64 n13 n14)]), (6, DV.val false [C.d (D.slice 1 l6)]), (7, DV.val false [C.d (D.int IntKind.i64 i7)]), (8, DV.val false [C.d (D.int IntKind.i64 (IntKind.wrap IntKind.i64 (i8 + 1)))])] [])))))))
    (kk (Ex.exit 0) (St.mk [(0, DV.val false [C.d (D.slice 1 l1)]), (2, DV.val false [C.d (D.cpx FloatKind.f64 n2 n3)]), (3, DV.val false [C.d (D.cpx FloatKind.f64 n4 n5)]), (6, DV.val false [C.d (D.slice 1 l6)]), (7, DV.val false [C.d (D.int IntKind.i64 i7)]), (8, DV.val false [C.d (D.int IntKind.i64 i8)]), (9, DV.val false [C.d (D.bool (decide (i8 < i7)))])] []))
theorem rl18_0 {R : Type} (fx : Fx R) (rec : St → Option R) (kk : Ex → St → Option R) (l1 : List (List D)) (n2 : Nat) (n3 : Nat) (n4 : Nat) (n5 : Nat) (l6 : List (List D)) (i7 : Int) (i8 : Int) : runK T kt fx (frOf T 18 Try.f18 0) 0 (bodyAt 0 0 (bodyOf Try.f18)) (st18_0 l1 n2 n3 n4 n5 l6 i7 i8) (roundK (frOf T 18 Try.f18 0) 0 ([0, 2, 3, 6, 7, 8]) rec kk) = gl18_0 fx rec kk l1 n2 n3 n4 n5 l6 i7 i8 := by kernel_rfl
noncomputable def ga18_0_0 (fx : Fx (DV × Heap)) (l15 : List (List D)) (n16 : Nat) (n17 : Nat) (n18 : Nat) (n19 : Nat) (l20 : List (List D)) (i21 : Int) (i22 : Int) (b23 : Bool) : Option (DV × Heap) :=
  some ((DV.val false [C.d (D.cpx FloatKind.f64 n18 n19)], []))
abbrev sx18_0_0 (l15 : List (List D)) (n16 : Nat) (n17 : Nat) (n18 : Nat) (n19 : Nat) (l20 : List (List D)) (i21 : Int) (i22 : Int) (b23 : Bool) : St := (St.mk [(0, DV.val false [C.d (D.slice 1 l15)]), (2, DV.val false [C.d (D.cpx FloatKind.f64 n16 n17)]), (3, DV.val false [C.d (D.cpx FloatKind.f64 n18 n19)]), (6, DV.val false [C.d (D.slice 1 l20)]), (7, DV.val false [C.d (D.int IntKind.i64 i21)]), (8, DV.val false [C.d (D.int IntKind.i64 i22)]), (9, DV.val false [C.d (D.bool b23)])] [])
theorem ra18_0_0 (fx : Fx (DV × Heap)) (l15 : List (List D)) (n16 : Nat) (n17 : Nat) (n18 : Nat) (n19 : Nat) (l20 : List (List D)) (i21 : Int) (i22 : Int) (b23 : Bool) : contAt T kt fx (frOf T 18 Try.f18 0) 0 0 (bodyOf Try.f18) (endK T 18 Try.f18 0) (Ex.exit 0) (sx18_0_0 l15 n16 n17 n18 n19 l20 i21 i22 b23) = ga18_0_0 fx l15 n16 n17 n18 n19 l20 i21 i22 b23 := by kernel_rfl
/-! gloss/glossbook.Clamp -/
noncomputable def g19 (fx : Fx (DV × Heap)) (i0 : Int) (i1 : Int) (i2 : Int) : Option (DV × Heap) :=
  cond (decide (i0 < i1))
    (some ((DV.val false [C.d (D.int IntKind.i64 i1)], [])))
    (cond (decide (i0 > i2))
      (some ((DV.val false [C.d (D.int IntKind.i64 i2)], [])))
      (some ((DV.val false [C.d (D.int IntKind.i64 i0)], []))))
theorem r19 (fx : Fx (DV × Heap)) (i0 : Int) (i1 : Int) (i2 : Int) : fnK T kt fx 19 Try.f19 ([DV.val false [C.d (D.int IntKind.i64 i0)], DV.val false [C.d (D.int IntKind.i64 i1)], DV.val false [C.d (D.int IntKind.i64 i2)]]) ([]) = g19 fx i0 i1 i2 := by kernel_rfl
/-! gloss/glosslaw3.looks -/
noncomputable def g20 (fx : Fx (DV × Heap)) (d0 : D) (l1 : List (List D)) (i2 : Int) : Option (DV × Heap) :=
  fx.call (15) ([DV.val false [C.d (D.int IntKind.i64 i2)], DV.val false [C.d (D.int IntKind.i64 (-1))], DV.val false [C.d (D.int IntKind.i64 40)]]) ([]) (RS.mk [(false, [CSh.d (Sh.int IntKind.i64)])] []) (fun ((((i3 : Int), _), _), _) =>
    fx.lp (0) (bodyAt 0 0 (bodyOf Try.f20)) (St.mk [(0, DV.val true [C.d d0]), (1, DV.val false [C.d (D.slice 2 l1)]), (2, DV.val false [C.d (D.int IntKind.i64 i2)]), (3, DV.val false [C.ptr 0 0]), (6, DV.val false [C.d (D.bool false)]), (7, DV.val false [C.d (D.cpx FloatKind.f64 0 0)]), (8, DV.val false [C.d (D.int IntKind.i64 (↑(List.length l1) : Int))]), (9, DV.val false [C.d (D.cpx FloatKind.f64 0 0)]), (10, DV.val false [C.d (D.int IntKind.i64 i3)]), (25, DV.val false [C.d (D.slice 2 l1)]), (26, DV.val false [C.d (D.int IntKind.i64 (↑(List.length l1) : Int))]), (27, DV.val false [C.d (D.int IntKind.i64 0)])] [Ob.box false [C.d d0]]) (contAt T kt fx (frOf T 20 Try.f20 0) 0 0 (bodyOf Try.f20) (endK T 20 Try.f20 0)))
theorem r20 (fx : Fx (DV × Heap)) (d0 : D) (l1 : List (List D)) (i2 : Int) : fnK T kt fx 20 Try.f20 ([DV.val true [C.d d0], DV.val false [C.d (D.slice 2 l1)], DV.val false [C.d (D.int IntKind.i64 i2)]]) ([]) = g20 fx d0 l1 i2 := by kernel_rfl
abbrev st20_0 (d4 : D) (l5 : List (List D)) (i6 : Int) (b7 : Bool) (n8 : Nat) (n9 : Nat) (i10 : Int) (n11 : Nat) (n12 : Nat) (i13 : Int) (l14 : List (List D)) (i15 : Int) (i16 : Int) (d17 : D) : St := (St.mk [(0, DV.val true [C.d d4]), (1, DV.val false [C.d (D.slice 2 l5)]), (2, DV.val false [C.d (D.int IntKind.i64 i6)]), (3, DV.val false [C.ptr 0 0]), (6, DV.val false [C.d (D.bool b7)]), (7, DV.val false [C.d (D.cpx FloatKind.f64 n8 n9)]), (8, DV.val false [C.d (D.int IntKind.i64 i10)]), (9, DV.val false [C.d (D.cpx FloatKind.f64 n11 n12)]), (10, DV.val false [C.d (D.int IntKind.i64 i13)]), (25, DV.val false [C.d (D.slice 2 l14)]), (26, DV.val false [C.d (D.int IntKind.i64 i15)]), (27, DV.val false [C.d (D.int IntKind.i64 i16)])] [Ob.box false [C.d d17]])
noncomputable def gl20_0 {R : Type} (fx : Fx R) (rec : St → Option R) (kk : Ex → St → Option R) (d4 : D) (l5 : List (List D)) (i6 : Int) (b7 : Bool) (n8 : Nat) (n9 : Nat) (i10 : Int) (n11 : Nat) (n12 : Nat) (i13 : Int) (l14 : List (List D)) (i15 : Int) (i16 : Int) (d17 : D) : Option R :=
  cond (decide (i16 < i15))
    (fx.elp l14 i16 (fun (c18 : List D) =>
      fx.ptr (D.ptr c18) (fun (c19 : List D) =>
        fx.load c19 ([Sh.int IntKind.i64, Sh.cpx]) (fun ((i20 : Int), (((n21 : Nat), (n22 : Nat)), _)) =>
          cond (i10 == (↑(List.length l5) : Int))
            (fx.call (22) ([DV.val false [C.d (D.cpx FloatKind.f64 n8 n9)]]) ([]) (RS.mk [(false, [CSh.d (Sh.int IntKind.i64)])] []) (fun ((((i23 : Int), _), _), _) =>
              fx.call (22) ([DV.val false [C.d (D.cpx FloatKind.f64 n21 n22)]]) ([]) (RS.mk [(false, [CSh.d (Sh.int IntKind.i64)])] []) (fun ((((i24 : Int), _), _), _) =>
                cond (decide (IntKind.wrap IntKind.i64 (i23 + i24) > i13))
                  (fx.call (18) ([DV.val false [C.d (D.slice 1 [[D.cpx FloatKind.f64 n8 n9], [D.cpx FloatKind.f64 n21 n22]])]]) ([]) (RS.mk [(false, [CSh.d Sh.cpx])] []) (fun (((((n25 : Nat), (n26 : Nat)), _), _), _) =>
                    rec (St.mk [(0, DV.val true [C.d d4]), (1, DV.val false [C.d (D.slice 2 l5)]), (2, DV.val false [C.d (D.int IntKind.i64 i6)]), (3, DV.val false [C.ptr 0 0]), (6, DV.val false [C.d (D.bool b7)]), (7, DV.val false [C.d (D.cpx FloatKind.f64 n25 n26)]), (8, DV.val false [C.d (D.int IntKind.i64 i16)]), (9, DV.val false [C.d (D.cpx FloatKind.f64 n8 n9)]), (10, DV.val false [C.d (D.int IntKind.i64 i13)]), (25, DV.val false [C.d (D.slice 2 l14)]), (26, DV.val false [C.d (D.int IntKind.i64 i15)]), (27, DV.val false [C.d (D.int IntKind.i64 (IntKind.wrap IntKind.i64 (i16 + 1)))])] [Ob.box false [C.d d17]])))
                  (fx.call (18) ([DV.val false [C.d (D.slice 1 [[D.cpx FloatKind.f64 n8 n9], [D.cpx FloatKind.f64 n21 n22]])]]) ([]) (RS.mk [(false, [CSh.d Sh.cpx])] []) (fun (((((n27 : Nat), (n28 : Nat)), _), _), _) =>
                    rec (St.mk [(0, DV.val true [C.d d4]), (1, DV.val false [C.d (D.slice 2 l5)]), (2, DV.val false [C.d (D.int IntKind.i64 i6)]), (3, DV.val false [C.ptr 0 0]), (6, DV.val false [C.d (D.bool b7)]), (7, DV.val false [C.d (D.cpx FloatKind.f64 n27 n28)]), (8, DV.val false [C.d (D.int IntKind.i64 i10)]), (9, DV.val false [C.d (D.cpx FloatKind.f64 n11 n12)]), (10, DV.val false [C.d (D.int IntKind.i64 i13)]), (25, DV.val false [C.d (D.slice 2 l14)]), (26, DV.val false [C.d (D.int IntKind.i64 i15)]), (27, DV.val false [C.d (D.int IntKind.i64 (IntKind.wrap IntKind.i64 (i16 + 1)))])] [Ob.box false [C.d d17]]))))))
            (fx.call (18) ([DV.val false [C.d (D.slice 1 [[D.cpx FloatKind.f64 n8 n9], [D.cpx FloatKind.f64 n21 n22]])]]) ([]) (RS.mk [(false, [CSh.d Sh.cpx])] []) (fun (((((n29 : Nat), (n30 : Nat)), _), _), _) =>
              rec (St.mk [(0, DV.val true [C.d d4]), (1, DV.val false [C.d (D.slice 2 l5)]), (2, DV.val false [C.d (D.int IntKind.i64 i6)]), (3, DV.val false [C.ptr 0 0]), (6, DV.val false [C.d (D.bool b7)]), (7, DV.val false [C.d (D.cpx FloatKind.f64 n29 n30)]), (8, DV.val false [C.d (D.int IntKind.i64 i10)]), (9, DV.val false [C.d (D.cpx FloatKind.f64 n11 n12)]), (10, DV.val false [C.d (D.int IntKind.i64 i13)]), (25, DV.val false [C.d (D.slice 2 l14)]), (26, DV.val false [C.d (D.int IntKind.i64 i15)]), (27, DV.val false [C.d (D.int IntKind.i64 (IntKind.wrap IntKind.i64 (i16 + 1)))])] [Ob.box false [C.d d17]])))))))
    (kk (Ex.exit 0) (St.mk [(0, DV.val true [C.d d4]), (1, DV.val false [C.d (D.slice 2 l5)]), (2, DV.val false [C.d (D.int IntKind.i64 i6)]), (3, DV.val false [C.ptr 0 0]), (6, DV.val false [C.d (D.bool b7)]), (7, DV.val false [C.d (D.cpx FloatKind.f64 n8 n9)]), (8, DV.val false [C.d (D.int IntKind.i64 i10)]), (9, DV.val false [C.d (D.cpx FloatKind.f64 n11 n12)]), (10, DV.val false [C.d (D.int IntKind.i64 i13)]), (25, DV.val false [C.d (D.slice 2 l14)]), (26, DV.val false [C.d (D.int IntKind.i64 i15)]), (27, DV.val false [C.d (D.int IntKind.i64 i16)]), (28, DV.val false [C.d (D.bool (decide (i16 < i15)))])] [Ob.box false [C.d d17]]))
theorem rl20_0 {R : Type} (fx : Fx R) (rec : St → Option R) (kk : Ex → St → Option R) (d4 : D) (l5 : List (List D)) (i6 : Int) (b7 : Bool) (n8 : Nat) (n9 : Nat) (i10 : Int) (n11 : Nat) (n12 : Nat) (i13 : Int) (l14 : List (List D)) (i15 : Int) (i16 : Int) (d17 : D) : runK T kt fx (frOf T 20 Try.f20 0) 0 (bodyAt 0 0 (bodyOf Try.f20)) (st20_0 d4 l5 i6 b7 n8 n9 i10 n11 n12 i13 l14 i15 i16 d17) (roundK (frOf T 20 Try.f20 0) 0 ([0, 1, 2, 3, 6, 7, 8, 9, 10, 25, 26, 27]) rec kk) = gl20_0 fx rec kk d4 l5 i6 b7 n8 n9 i10 n11 n12 i13 l14 i15 i16 d17 := by kernel_rfl
noncomputable def ga20_0_0 (fx : Fx (DV × Heap)) (d31 : D) (l32 : List (List D)) (i33 : Int) (b34 : Bool) (n35 : Nat) (n36 : Nat) (i37 : Int) (n38 : Nat) (n39 : Nat) (i40 : Int) (l41 : List (List D)) (i42 : Int) (i43 : Int) (b44 : Bool) (d45 : D) : Option (DV × Heap) :=
  cond (i37 == (↑(List.length l32) : Int))
    (fx.lp (2) (bodyAt 2 0 (bodyOf Try.f20)) (St.mk [(0, DV.val true [C.d d31]), (1, DV.val false [C.d (D.slice 2 l32)]), (2, DV.val false [C.d (D.int IntKind.i64 i33)]), (3, DV.val false [C.ptr 0 0]), (6, DV.val false [C.d (D.bool b34)]), (7, DV.val false [C.d (D.cpx FloatKind.f64 n35 n36)]), (8, DV.val false [C.d (D.int IntKind.i64 i37)]), (9, DV.val false [C.d (D.cpx FloatKind.f64 n35 n36)]), (10, DV.val false [C.d (D.int IntKind.i64 i40)]), (13, DV.val false [C.d (D.int IntKind.i64 0)]), (14, DV.val false [C.d (D.int IntKind.i64 (↑(List.length l32) : Int))]), (25, DV.val false [C.d (D.slice 2 l41)]), (26, DV.val false [C.d (D.int IntKind.i64 i42)]), (27, DV.val false [C.d (D.int IntKind.i64 i43)]), (28, DV.val false [C.d (D.bool b44)]), (57, DV.val false [C.d (D.bool (i37 == (↑(List.length l32) : Int)))])] [Ob.box false [C.d d45]]) (contAt T kt fx (frOf T 20 Try.f20 0) 2 0 (bodyOf Try.f20) (endK T 20 Try.f20 0)))
    (fx.lp (2) (bodyAt 2 0 (bodyOf Try.f20)) (St.mk [(0, DV.val true [C.d d31]), (1, DV.val false [C.d (D.slice 2 l32)]), (2, DV.val false [C.d (D.int IntKind.i64 i33)]), (3, DV.val false [C.ptr 0 0]), (6, DV.val false [C.d (D.bool b34)]), (7, DV.val false [C.d (D.cpx FloatKind.f64 n35 n36)]), (8, DV.val false [C.d (D.int IntKind.i64 i37)]), (9, DV.val false [C.d (D.cpx FloatKind.f64 n38 n39)]), (10, DV.val false [C.d (D.int IntKind.i64 i40)]), (13, DV.val false [C.d (D.int IntKind.i64 0)]), (14, DV.val false [C.d (D.int IntKind.i64 (↑(List.length l32) : Int))]), (25, DV.val false [C.d (D.slice 2 l41)]), (26, DV.val false [C.d (D.int IntKind.i64 i42)]), (27, DV.val false [C.d (D.int IntKind.i64 i43)]), (28, DV.val false [C.d (D.bool b44)]), (57, DV.val false [C.d (D.bool (i37 == (↑(List.length l32) : Int)))])] [Ob.box false [C.d d45]]) (contAt T kt fx (frOf T 20 Try.f20 0) 2 0 (bodyOf Try.f20) (endK T 20 Try.f20 0)))
abbrev sx20_0_0 (d31 : D) (l32 : List (List D)) (i33 : Int) (b34 : Bool) (n35 : Nat) (n36 : Nat) (i37 : Int) (n38 : Nat) (n39 : Nat) (i40 : Int) (l41 : List (List D)) (i42 : Int) (i43 : Int) (b44 : Bool) (d45 : D) : St := (St.mk [(0, DV.val true [C.d d31]), (1, DV.val false [C.d (D.slice 2 l32)]), (2, DV.val false [C.d (D.int IntKind.i64 i33)]), (3, DV.val false [C.ptr 0 0]), (6, DV.val false [C.d (D.bool b34)]), (7, DV.val false [C.d (D.cpx FloatKind.f64 n35 n36)]), (8, DV.val false [C.d (D.int IntKind.i64 i37)]), (9, DV.val false [C.d (D.cpx FloatKind.f64 n38 n39)]), (10, DV.val false [C.d (D.int IntKind.i64 i40)]), (25, DV.val false [C.d (D.slice 2 l41)]), (26, DV.val false [C.d (D.int IntKind.i64 i42)]), (27, DV.val false [C.d (D.int IntKind.i64 i43)]), (28, DV.val false [C.d (D.bool b44)])] [Ob.box false [C.d d45]])
theorem ra20_0_0 (fx : Fx (DV × Heap)) (d31 : D) (l32 : List (List D)) (i33 : Int) (b34 : Bool) (n35 : Nat) (n36 : Nat) (i37 : Int) (n38 : Nat) (n39 : Nat) (i40 : Int) (l41 : List (List D)) (i42 : Int) (i43 : Int) (b44 : Bool) (d45 : D) : contAt T kt fx (frOf T 20 Try.f20 0) 0 0 (bodyOf Try.f20) (endK T 20 Try.f20 0) (Ex.exit 0) (sx20_0_0 d31 l32 i33 b34 n35 n36 i37 n38 n39 i40 l41 i42 i43 b44 d45) = ga20_0_0 fx d31 l32 i33 b34 n35 n36 i37 n38 n39 i40 l41 i42 i43 b44 d45 := by kernel_rfl
abbrev st20_1 (d46 : D) (l47 : List (List D)) (i48 : Int) (b49 : Bool) (n50 : Nat) (n51 : Nat) (i52 : Int) (n53 : Nat) (n54 : Nat) (i55 : Int) (i56 : Int) (i57 : Int) (l58 : List (List D)) (i59 : Int) (i60 : Int) (b61 : Bool) (b62 : Bool) (d63 : D) : St := (St.mk [(0, DV.val true [C.d d46]), (1, DV.val false [C.d (D.slice 2 l47)]), (2, DV.val false [C.d (D.int IntKind.i64 i48)]), (3, DV.val false [C.ptr 0 0]), (6, DV.val false [C.d (D.bool b49)]), (7, DV.val false [C.d (D.cpx FloatKind.f64 n50 n51)]), (8, DV.val false [C.d (D.int IntKind.i64 i52)]), (9, DV.val false [C.d (D.cpx FloatKind.f64 n53 n54)]), (10, DV.val false [C.d (D.int IntKind.i64 i55)]), (13, DV.val false [C.d (D.int IntKind.i64 i56)]), (14, DV.val false [C.d (D.int IntKind.i64 i57)]), (25, DV.val false [C.d (D.slice 2 l58)]), (26, DV.val false [C.d (D.int IntKind.i64 i59)]), (27, DV.val false [C.d (D.int IntKind.i64 i60)]), (28, DV.val false [C.d (D.bool b61)]), (57, DV.val false [C.d (D.bool b62)])] [Ob.box false [C.d d63]])
noncomputable def gl20_1 {R : Type} (fx : Fx R) (rec : St → Option R) (kk : Ex → St → Option R) (d46 : D) (l47 : List (List D)) (i48 : Int) (b49 : Bool) (n50 : Nat) (n51 : Nat) (i52 : Int) (n53 : Nat) (n54 : Nat) (i55 : Int) (i56 : Int) (i57 : Int) (l58 : List (List D)) (i59 : Int) (i60 : Int) (b61 : Bool) (b62 : Bool) (d63 : D) : Option R :=
  cond (decide (i57 > 0))
    (fx.chk true
      (rec (St.mk [(0, DV.val true [C.d d46]), (1, DV.val false [C.d (D.slice 2 l47)]), (2, DV.val false [C.d (D.int IntKind.i64 i48)]), (3, DV.val false [C.ptr 0 0]), (6, DV.val false [C.d (D.bool b49)]), (7, DV.val false [C.d (D.cpx FloatKind.f64 n50 n51)]), (8, DV.val false [C.d (D.int IntKind.i64 i52)]), (9, DV.val false [C.d (D.cpx FloatKind.f64 n53 n54)]), (10, DV.val false [C.d (D.int IntKind.i64 i55)]), (13, DV.val false [C.d (D.int IntKind.i64 (IntKind.wrap IntKind.i64 (i56 + 1)))]), (14, DV.val false [C.d (D.int IntKind.i64 (IntKind.wrap IntKind.i64 (Int.tdiv i57 2)))]), (25, DV.val false [C.d (D.slice 2 l58)]), (26, DV.val false [C.d (D.int IntKind.i64 i59)]), (27, DV.val false [C.d (D.int IntKind.i64 i60)]), (28, DV.val false [C.d (D.bool b61)]), (57, DV.val false [C.d (D.bool b62)])] [Ob.box false [C.d d63]])))
    (kk (Ex.exit 2) (St.mk [(0, DV.val true [C.d d46]), (1, DV.val false [C.d (D.slice 2 l47)]), (2, DV.val false [C.d (D.int IntKind.i64 i48)]), (3, DV.val false [C.ptr 0 0]), (6, DV.val false [C.d (D.bool b49)]), (7, DV.val false [C.d (D.cpx FloatKind.f64 n50 n51)]), (8, DV.val false [C.d (D.int IntKind.i64 i52)]), (9, DV.val false [C.d (D.cpx FloatKind.f64 n53 n54)]), (10, DV.val false [C.d (D.int IntKind.i64 i55)]), (13, DV.val false [C.d (D.int IntKind.i64 i56)]), (14, DV.val false [C.d (D.int IntKind.i64 i57)]), (25, DV.val false [C.d (D.slice 2 l58)]), (26, DV.val false [C.d (D.int IntKind.i64 i59)]), (27, DV.val false [C.d (D.int IntKind.i64 i60)]), (28, DV.val false [C.d (D.bool b61)]), (57, DV.val false [C.d (D.bool b62)]), (62, DV.val false [C.d (D.bool (decide (i57 > 0)))])] [Ob.box false [C.d d63]]))
theorem rl20_1 {R : Type} (fx : Fx R) (rec : St → Option R) (kk : Ex → St → Option R) (d46 : D) (l47 : List (List D)) (i48 : Int) (b49 : Bool) (n50 : Nat) (n51 : Nat) (i52 : Int) (n53 : Nat) (n54 : Nat) (i55 : Int) (i56 : Int) (i57 : Int) (l58 : List (List D)) (i59 : Int) (i60 : Int) (b61 : Bool) (b62 : Bool) (d63 : D) : runK T kt fx (frOf T 20 Try.f20 0) 2 (bodyAt 2 0 (bodyOf Try.f20)) (st20_1 d46 l47 i48 b49 n50 n51 i52 n53 n54 i55 i56 i57 l58 i59 i60 b61 b62 d63) (roundK (frOf T 20 Try.f20 0) 2 ([0, 1, 2, 3, 6, 7, 8, 9, 10, 13, 14, 25, 26, 27, 28, 57]) rec kk) = gl20_1 fx rec kk d46 l47 i48 b49 n50 n51 i52 n53 n54 i55 i56 i57 l58 i59 i60 b61 b62 d63 := by kernel_rfl
noncomputable def ga20_1_0 (fx : Fx (DV × Heap)) (d64 : D) (l65 : List (List D)) (i66 : Int) (b67 : Bool) (n68 : Nat) (n69 : Nat) (i70 : Int) (n71 : Nat) (n72 : Nat) (i73 : Int) (i74 : Int) (i75 : Int) (l76 : List (List D)) (i77 : Int) (i78 : Int) (b79 : Bool) (b80 : Bool) (b81 : Bool) (d82 : D) : Option (DV × Heap) :=
  fx.call (13) ([DV.val true [C.d d82], DV.val false [C.d (D.int IntKind.i64 i73)]]) ([]) (RS.mk [(false, [CSh.d (Sh.int IntKind.i64)]), (false, [CSh.d Sh.cpx])] []) (fun ((((i83 : Int), _), ((((n84 : Nat), (n85 : Nat)), _), _)), _) =>
    fx.call (15) ([DV.val false [C.d (D.int IntKind.i64 i66)], DV.val false [C.d (D.int IntKind.i64 (-2))], DV.val false [C.d (D.int IntKind.i64 (IntKind.wrap IntKind.i64 ((↑(List.length l65) : Int) + 1)))]]) ([]) (RS.mk [(false, [CSh.d (Sh.int IntKind.i64)])] []) (fun ((((i86 : Int), _), _), _) =>
      fx.call (21) ([DV.val true [C.d d82], DV.val false [C.d (D.int IntKind.i64 i86)]]) ([]) (RS.mk [(true, [CSh.d (Sh.int IntKind.i64), CSh.d Sh.cpx]), (false, [CSh.d Sh.bool])] []) (fun ((((i87 : Int), (((n88 : Nat), (n89 : Nat)), _)), (((b90 : Bool), _), _)), _) =>
        cond (decide (i86 ≥ 0))
          (fx.call (14) ([DV.val true [C.d d82]]) ([]) (RS.mk [(false, [CSh.d (Sh.int IntKind.i64)])] []) (fun ((((i91 : Int), _), _), _) =>
            cond (i91 == (↑(List.length l65) : Int))
              (fx.call (17) ([DV.val true [C.d d82]]) ([]) (RS.mk [(false, [CSh.d Sh.cpx])] []) (fun (((((n92 : Nat), (n93 : Nat)), _), _), _) =>
                cond (floatEqB FloatKind.f64 n92 n68 && floatEqB FloatKind.f64 n93 n69)
                  (fx.call (12) ([DV.val true [C.d d82]]) ([]) (RS.mk [(false, [CSh.d (Sh.sl 2)])] []) (fun ((((l94 : List (List D)), _), _), _) =>
                    fx.call (16) ([DV.val false [C.d (D.slice 2 l94)], DV.val false [C.d (D.slice 2 l65)]]) ([]) (RS.mk [(false, [CSh.d Sh.bool])] []) (fun ((((b95 : Bool), _), _), _) =>
                      cond b95
                        (cond (i83 == i70)
                          (cond (floatEqB FloatKind.f64 n84 n71 && floatEqB FloatKind.f64 n85 n72)
                            (cond (b90 == decide (i86 < (↑(List.length l65) : Int)) && true)
                              (cond (!decide (i86 < (↑(List.length l65) : Int)))
                                (cond (decide (i86 < (↑(List.length l65) : Int)))
                                  (fx.call (23) ([DV.val true [C.d d82]]) ([]) (RS.mk [(false, [CSh.d (Sh.int IntKind.i64)])] []) (fun ((((i96 : Int), _), _), _) =>
                                    cond (decide (i96 ≤ IntKind.wrap IntKind.i64 (2 * i74)))
                                      (fx.call (23) ([DV.val true [C.d d82]]) ([]) (RS.mk [(false, [CSh.d (Sh.int IntKind.i64)])] []) (fun ((((i97 : Int), _), _), _) =>
                                        some ((DV.val false [C.d (D.bool (decide (i97 ≥ if false = true then if 1 > i74 then 1 else i74 else if 1 < i74 then 1 else i74)))], []))))
                                      (some ((DV.val false [C.d (D.bool false)], [])))))
                                  (cond (i87 == 0 && (floatEqB FloatKind.f64 n88 0 && floatEqB FloatKind.f64 n89 0 && true))
                                    (fx.call (23) ([DV.val true [C.d d82]]) ([]) (RS.mk [(false, [CSh.d (Sh.int IntKind.i64)])] []) (fun ((((i98 : Int), _), _), _) =>
                                      cond (decide (i98 ≤ IntKind.wrap IntKind.i64 (2 * i74)))
                                        (fx.call (23) ([DV.val true [C.d d82]]) ([]) (RS.mk [(false, [CSh.d (Sh.int IntKind.i64)])] []) (fun ((((i99 : Int), _), _), _) =>
                                          some ((DV.val false [C.d (D.bool (decide (i99 ≥ if false = true then if 1 > i74 then 1 else i74 else if 1 < i74 then 1 else i74)))], []))))
                                        (some ((DV.val false [C.d (D.bool false)], [])))))
                                    (some ((DV.val false [C.d (D.bool false)], [])))))
                                (fx.elp l65 i86 (fun (c100 : List D) =>
                                  fx.ptr (D.ptr c100) (fun (c101 : List D) =>
                                    fx.load c101 ([Sh.int IntKind.i64, Sh.cpx]) (fun ((i102 : Int), (((n103 : Nat), (n104 : Nat)), _)) =>
                                      cond (i87 == i102 && (floatEqB FloatKind.f64 n88 n103 && floatEqB FloatKind.f64 n89 n104 && true))
                                        (cond (decide (i86 < (↑(List.length l65) : Int)))
                                          (fx.call (23) ([DV.val true [C.d d82]]) ([]) (RS.mk [(false, [CSh.d (Sh.int IntKind.i64)])] []) (fun ((((i105 : Int), _), _), _) =>
                                            cond (decide (i105 ≤ IntKind.wrap IntKind.i64 (2 * i74)))
                                              (fx.call (23) ([DV.val true [C.d d82]]) ([]) (RS.mk [(false, [CSh.d (Sh.int IntKind.i64)])] []) (fun ((((i106 : Int), _), _), _) =>
                                                some ((DV.val false [C.d (D.bool (decide (i106 ≥ if false = true then if 1 > i74 then 1 else i74 else if 1 < i74 then 1 else i74)))], []))))
                                              (some ((DV.val false [C.d (D.bool false)], [])))))
                                          (cond (i87 == 0 && (floatEqB FloatKind.f64 n88 0 && floatEqB FloatKind.f64 n89 0 && true))
                                            (fx.call (23) ([DV.val true [C.d d82]]) ([]) (RS.mk [(false, [CSh.d (Sh.int IntKind.i64)])] []) (fun ((((i107 : Int), _), _), _) =>
                                              cond (decide (i107 ≤ IntKind.wrap IntKind.i64 (2 * i74)))
                                                (fx.call (23) ([DV.val true [C.d d82]]) ([]) (RS.mk [(false, [CSh.d (Sh.int IntKind.i64)])] []) (fun ((((i108 : Int), _), _), _) =>
                                                  some ((DV.val false [C.d (D.bool (decide (i108 ≥ if false = true then if 1 > i74 then 1 else i74 else if 1 < i74 then 1 else i74)))], []))))
                                                (some ((DV.val false [C.d (D.bool false)], [])))))
                                            (some ((DV.val false [C.d (D.bool false)], [])))))
                                        (some ((DV.val false [C.d (D.bool false)], []))))))))
                              (some ((DV.val false [C.d (D.bool false)], []))))
                            (some ((DV.val false [C.d (D.bool false)], []))))
                          (some ((DV.val false [C.d (D.bool false)], []))))
                        (some ((DV.val false [C.d (D.bool false)], []))))))
                  (some ((DV.val false [C.d (D.bool false)], [])))))
              (some ((DV.val false [C.d (D.bool false)], [])))))
          (fx.call (14) ([DV.val true [C.d d82]]) ([]) (RS.mk [(false, [CSh.d (Sh.int IntKind.i64)])] []) (fun ((((i109 : Int), _), _), _) =>
            cond (i109 == (↑(List.length l65) : Int))
              (fx.call (17) ([DV.val true [C.d d82]]) ([]) (RS.mk [(false, [CSh.d Sh.cpx])] []) (fun (((((n110 : Nat), (n111 : Nat)), _), _), _) =>
                cond (floatEqB FloatKind.f64 n110 n68 && floatEqB FloatKind.f64 n111 n69)
                  (fx.call (12) ([DV.val true [C.d d82]]) ([]) (RS.mk [(false, [CSh.d (Sh.sl 2)])] []) (fun ((((l112 : List (List D)), _), _), _) =>
                    fx.call (16) ([DV.val false [C.d (D.slice 2 l112)], DV.val false [C.d (D.slice 2 l65)]]) ([]) (RS.mk [(false, [CSh.d Sh.bool])] []) (fun ((((b113 : Bool), _), _), _) =>
                      cond b113
                        (cond (i83 == i70)
                          (cond (floatEqB FloatKind.f64 n84 n71 && floatEqB FloatKind.f64 n85 n72)
                            (cond (b90 == false && true)
                              (cond (i87 == 0 && (floatEqB FloatKind.f64 n88 0 && floatEqB FloatKind.f64 n89 0 && true))
                                (fx.call (23) ([DV.val true [C.d d82]]) ([]) (RS.mk [(false, [CSh.d (Sh.int IntKind.i64)])] []) (fun ((((i114 : Int), _), _), _) =>
                                  cond (decide (i114 ≤ IntKind.wrap IntKind.i64 (2 * i74)))
                                    (fx.call (23) ([DV.val true [C.d d82]]) ([]) (RS.mk [(false, [CSh.d (Sh.int IntKind.i64)])] []) (fun ((((i115 : Int), _), _), _) =>
                                      some ((DV.val false [C.d (D.bool (decide (i115 ≥ if false = true then if 1 > i74 then 1 else i74 else if 1 < i74 then 1 else i74)))], []))))
                                    (some ((DV.val false [C.d (D.bool false)], [])))))
                                (some ((DV.val false [C.d (D.bool false)], []))))
                              (some ((DV.val false [C.d (D.bool false)], []))))
                            (some ((DV.val false [C.d (D.bool false)], []))))
                          (some ((DV.val false [C.d (D.bool false)], []))))
                        (some ((DV.val false [C.d (D.bool false)], []))))))
                  (some ((DV.val false [C.d (D.bool false)], [])))))
              (some ((DV.val false [C.d (D.bool false)], []))))))))
abbrev sx20_1_0 (d64 : D) (l65 : List (List D)) (i66 : Int) (b67 : Bool) (n68 : Nat) (n69 : Nat) (i70 : Int) (n71 : Nat) (n72 : Nat) (i73 : Int) (i74 : Int) (i75 : Int) (l76 : List (List D)) (i77 : Int) (i78 : Int) (b79 : Bool) (b80 : Bool) (b81 : Bool) (d82 : D) : St := (St.mk [(0, DV.val true [C.d d64]), (1, DV.val false [C.d (D.slice 2 l65)]), (2, DV.val false [C.d (D.int IntKind.i64 i66)]), (3, DV.val false [C.ptr 0 0]), (6, DV.val false [C.d (D.bool b67)]), (7, DV.val false [C.d (D.cpx FloatKind.f64 n68 n69)]), (8, DV.val false [C.d (D.int IntKind.i64 i70)]), (9, DV.val false [C.d (D.cpx FloatKind.f64 n71 n72)]), (10, DV.val false [C.d (D.int IntKind.i64 i73)]), (13, DV.val false [C.d (D.int IntKind.i64 i74)]), (14, DV.val false [C.d (D.int IntKind.i64 i75)]), (25, DV.val false [C.d (D.slice 2 l76)]), (26, DV.val false [C.d (D.int IntKind.i64 i77)]), (27, DV.val false [C.d (D.int IntKind.i64 i78)]), (28, DV.val false [C.d (D.bool b79)]), (57, DV.val false [C.d (D.bool b80)]), (62, DV.val false [C.d (D.bool b81)])] [Ob.box false [C.d d82]])
theorem ra20_1_0 (fx : Fx (DV × Heap)) (d64 : D) (l65 : List (List D)) (i66 : Int) (b67 : Bool) (n68 : Nat) (n69 : Nat) (i70 : Int) (n71 : Nat) (n72 : Nat) (i73 : Int) (i74 : Int) (i75 : Int) (l76 : List (List D)) (i77 : Int) (i78 : Int) (b79 : Bool) (b80 : Bool) (b81 : Bool) (d82 : D) : contAt T kt fx (frOf T 20 Try.f20 0) 2 0 (bodyOf Try.f20) (endK T 20 Try.f20 0) (Ex.exit 2) (sx20_1_0 d64 l65 i66 b67 n68 n69 i70 n71 n72 i73 i74 i75 l76 i77 i78 b79 b80 b81 d82) = ga20_1_0 fx d64 l65 i66 b67 n68 n69 i70 n71 n72 i73 i74 i75 l76 i77 i78 b79 b80 b81 d82 := by kernel_rfl
/-! (gloss/rope.Rope).At -/
noncomputable def g21 (fx : Fx (DV × Heap)) (d0 : D) (i1 : Int) : Option (DV × Heap) :=
  cond (decide (i1 < 0))
    (some ((DV.tup [(true, [C.d (D.int IntKind.i64 0), C.d (D.cpx FloatKind.f64 0 0)]), (false, [C.d (D.bool false)])], [])))
    (fx.call (14) ([DV.val true [C.d d0]]) ([]) (RS.mk [(false, [CSh.d (Sh.int IntKind.i64)])] []) (fun ((((i2 : Int), _), _), _) =>
      cond (decide (i1 ≥ i2))
        (some ((DV.tup [(true, [C.d (D.int IntKind.i64 0), C.d (D.cpx FloatKind.f64 0 0)]), (false, [C.d (D.bool false)])], [])))
        (fx.lp (0) (bodyAt 0 0 (bodyOf Try.f21)) (St.mk [(0, DV.val true [C.d d0]), (1, DV.val false [C.d (D.int IntKind.i64 i1)]), (2, DV.val false [C.ptr 0 0]), (4, DV.val false [C.ptr 1 0]), (5, DV.val false [C.d (D.bool false)]), (6, DV.val false [C.d d0]), (15, DV.val false [C.d (D.bool (decide (i1 ≥ i2)))])] [Ob.box false [C.d d0], Ob.box false [C.d (D.int IntKind.i64 0), C.d (D.cpx FloatKind.f64 0 0)]]) (contAt T kt fx (frOf T 21 Try.f21 0) 0 0 (bodyOf Try.f21) (endK T 21 Try.f21 0)))))
theorem r21 (fx : Fx (DV × Heap)) (d0 : D) (i1 : Int) : fnK T kt fx 21 Try.f21 ([DV.val true [C.d d0], DV.val false [C.d (D.int IntKind.i64 i1)]]) ([]) = g21 fx d0 i1 := by kernel_rfl
abbrev st21_0 (d3 : D) (i4 : Int) (b5 : Bool) (d6 : D) (b7 : Bool) (d8 : D) (i9 : Int) (n10 : Nat) (n11 : Nat) : St := (St.mk [(0, DV.val true [C.d d3]), (1, DV.val false [C.d (D.int IntKind.i64 i4)]), (2, DV.val false [C.ptr 0 0]), (4, DV.val false [C.ptr 1 0]), (5, DV.val false [C.d (D.bool b5)]), (6, DV.val false [C.d d6]), (15, DV.val false [C.d (D.bool b7)])] [Ob.box false [C.d d8], Ob.box false [C.d (D.int IntKind.i64 i9), C.d (D.cpx FloatKind.f64 n10 n11)]])
noncomputable def gl21_0 {R : Type} (fx : Fx R) (rec : St → Option R) (kk : Ex → St → Option R) (d3 : D) (i4 : Int) (b5 : Bool) (d6 : D) (b7 : Bool) (d8 : D) (i9 : Int) (n10 : Nat) (n11 : Nat) : Option R :=
  fx.nn d6
    (fx.ptr d6 (fun (c12 : List D) =>
      fx.ptr (D.ptr (List.drop 0 c12)) (fun (c13 : List D) =>
        fx.load c13 ([Sh.any]) (fun ((d14 : D), _) =>
          fx.call (29) ([DV.val false [C.d d14]]) ([]) (RS.mk [(false, [CSh.d (Sh.int IntKind.i64)])] []) (fun ((((i15 : Int), _), _), _) =>
            cond (i4 != i15)
              (fx.nn d6
                (fx.ptr d6 (fun (c16 : List D) =>
                  fx.ptr (D.ptr (List.drop 0 c16)) (fun (c17 : List D) =>
                    fx.load c17 ([Sh.any]) (fun ((d18 : D), _) =>
                      fx.call (29) ([DV.val false [C.d d18]]) ([]) (RS.mk [(false, [CSh.d (Sh.int IntKind.i64)])] []) (fun ((((i19 : Int), _), _), _) =>
                        cond (decide (i4 > i19))
                          (fx.nn d6
                            (fx.ptr d6 (fun (c20 : List D) =>
                              fx.ptr (D.ptr (List.drop 1 c20)) (fun (c21 : List D) =>
                                fx.load c21 ([Sh.any]) (fun ((d22 : D), _) =>
                                  rec (St.mk [(0, DV.val true [C.d d3]), (1, DV.val false [C.d (D.int IntKind.i64 (IntKind.wrap IntKind.i64 (IntKind.wrap IntKind.i64 (i4 - i19) - 1)))]), (2, DV.val false [C.ptr 0 0]), (4, DV.val false [C.ptr 1 0]), (5, DV.val false [C.d (D.bool b5)]), (6, DV.val false [C.d d22]), (15, DV.val false [C.d (D.bool b7)])] [Ob.box false [C.d d8], Ob.box false [C.d (D.int IntKind.i64 i9), C.d (D.cpx FloatKind.f64 n10 n11)]]))))))
                          (fx.nn d6
                            (fx.ptr d6 (fun (c23 : List D) =>
                              fx.ptr (D.ptr (List.drop 0 c23)) (fun (c24 : List D) =>
                                fx.load c24 ([Sh.any]) (fun ((d25 : D), _) =>
                                  rec (St.mk [(0, DV.val true [C.d d3]), (1, DV.val false [C.d (D.int IntKind.i64 i4)]), (2, DV.val false [C.ptr 0 0]), (4, DV.val false [C.ptr 1 0]), (5, DV.val false [C.d (D.bool b5)]), (6, DV.val false [C.d d25]), (15, DV.val false [C.d (D.bool b7)])] [Ob.box false [C.d d8], Ob.box false [C.d (D.int IntKind.i64 i9), C.d (D.cpx FloatKind.f64 n10 n11)]]))))))))))))
              (kk (Ex.exit 0) (St.mk [(0, DV.val true [C.d d3]), (1, DV.val false [C.d (D.int IntKind.i64 i4)]), (2, DV.val false [C.ptr 0 0]), (4, DV.val false [C.ptr 1 0]), (5, DV.val false [C.d (D.bool b5)]), (6, DV.val false [C.d d6]), (15, DV.val false [C.d (D.bool b7)]), (25, DV.val false [C.d (D.bool (i4 != i15))])] [Ob.box false [C.d d8], Ob.box false [C.d (D.int IntKind.i64 i9), C.d (D.cpx FloatKind.f64 n10 n11)]])))))))
theorem rl21_0 {R : Type} (fx : Fx R) (rec : St → Option R) (kk : Ex → St → Option R) (d3 : D) (i4 : Int) (b5 : Bool) (d6 : D) (b7 : Bool) (d8 : D) (i9 : Int) (n10 : Nat) (n11 : Nat) : runK T kt fx (frOf T 21 Try.f21 0) 0 (bodyAt 0 0 (bodyOf Try.f21)) (st21_0 d3 i4 b5 d6 b7 d8 i9 n10 n11) (roundK (frOf T 21 Try.f21 0) 0 ([0, 1, 2, 4, 5, 6, 15]) rec kk) = gl21_0 fx rec kk d3 i4 b5 d6 b7 d8 i9 n10 n11 := by kernel_rfl
noncomputable def ga21_0_0 (fx : Fx (DV × Heap)) (d26 : D) (i27 : Int) (b28 : Bool) (d29 : D) (b30 : Bool) (b31 : Bool) (d32 : D) (i33 : Int) (n34 : Nat) (n35 : Nat) : Option (DV × Heap) :=
  fx.nn d29
    (fx.ptr d29 (fun (c36 : List D) =>
      fx.ptr (D.ptr (List.drop 2 c36)) (fun (c37 : List D) =>
        fx.load c37 ([Sh.int IntKind.i64, Sh.cpx]) (fun ((i38 : Int), (((n39 : Nat), (n40 : Nat)), _)) =>
          some ((DV.tup [(true, [C.d (D.int IntKind.i64 i38), C.d (D.cpx FloatKind.f64 n39 n40)]), (false, [C.d (D.bool true)])], []))))))
abbrev sx21_0_0 (d26 : D) (i27 : Int) (b28 : Bool) (d29 : D) (b30 : Bool) (b31 : Bool) (d32 : D) (i33 : Int) (n34 : Nat) (n35 : Nat) : St := (St.mk [(0, DV.val true [C.d d26]), (1, DV.val false [C.d (D.int IntKind.i64 i27)]), (2, DV.val false [C.ptr 0 0]), (4, DV.val false [C.ptr 1 0]), (5, DV.val false [C.d (D.bool b28)]), (6, DV.val false [C.d d29]), (15, DV.val false [C.d (D.bool b30)]), (25, DV.val false [C.d (D.bool b31)])] [Ob.box false [C.d d32], Ob.box false [C.d (D.int IntKind.i64 i33), C.d (D.cpx FloatKind.f64 n34 n35)]])
theorem ra21_0_0 (fx : Fx (DV × Heap)) (d26 : D) (i27 : Int) (b28 : Bool) (d29 : D) (b30 : Bool) (b31 : Bool) (d32 : D) (i33 : Int) (n34 : Nat) (n35 : Nat) : contAt T kt fx (frOf T 21 Try.f21 0) 0 0 (bodyOf Try.f21) (endK T 21 Try.f21 0) (Ex.exit 0) (sx21_0_0 d26 i27 b28 d29 b30 b31 d32 i33 n34 n35) = ga21_0_0 fx d26 i27 b28 d29 b30 b31 d32 i33 n34 n35 := by kernel_rfl
/-! gloss/mark.Lines -/
noncomputable def g22 (fx : Fx (DV × Heap)) (n0 : Nat) (n1 : Nat) : Option (DV × Heap) :=
  fx.f2i FloatKind.f64 IntKind.i64 n0 (fun (i2 : Int) =>
    some ((DV.val false [C.d (D.int IntKind.i64 i2)], [])))
theorem r22 (fx : Fx (DV × Heap)) (n0 : Nat) (n1 : Nat) : fnK T kt fx 22 Try.f22 ([DV.val false [C.d (D.cpx FloatKind.f64 n0 n1)]]) ([]) = g22 fx n0 n1 := by kernel_rfl
/-! (gloss/rope.Rope).Height -/
noncomputable def g23 (fx : Fx (DV × Heap)) (d0 : D) : Option (DV × Heap) :=
  fx.call (30) ([DV.val false [C.d d0]]) ([]) (RS.mk [(false, [CSh.d (Sh.int IntKind.i64)])] []) (fun ((((i1 : Int), _), _), _) =>
    some ((DV.val false [C.d (D.int IntKind.i64 i1)], [])))
theorem r23 (fx : Fx (DV × Heap)) (d0 : D) : fnK T kt fx 23 Try.f23 ([DV.val true [C.d d0]]) ([]) = g23 fx d0 := by kernel_rfl
/-! gloss/rope.tree -/
noncomputable def g24 (fx : Fx (DV × Heap)) (d0 : D) (i1 : Int) (n2 : Nat) (n3 : Nat) (d4 : D) : Option (DV × Heap) :=
  fx.call (30) ([DV.val false [C.d d0]]) ([]) (RS.mk [(false, [CSh.d (Sh.int IntKind.i64)])] []) (fun ((((i5 : Int), _), _), _) =>
    fx.call (30) ([DV.val false [C.d d4]]) ([]) (RS.mk [(false, [CSh.d (Sh.int IntKind.i64)])] []) (fun ((((i6 : Int), _), _), _) =>
      fx.call (29) ([DV.val false [C.d d0]]) ([]) (RS.mk [(false, [CSh.d (Sh.int IntKind.i64)])] []) (fun ((((i7 : Int), _), _), _) =>
        fx.call (29) ([DV.val false [C.d d4]]) ([]) (RS.mk [(false, [CSh.d (Sh.int IntKind.i64)])] []) (fun ((((i8 : Int), _), _), _) =>
          fx.call (28) ([DV.val false [C.d d0]]) ([]) (RS.mk [(false, [CSh.d Sh.cpx])] []) (fun (((((n9 : Nat), (n10 : Nat)), _), _), _) =>
            fx.call (28) ([DV.val false [C.d d4]]) ([]) (RS.mk [(false, [CSh.d Sh.cpx])] []) (fun (((((n11 : Nat), (n12 : Nat)), _), _), _) =>
              fx.call (18) ([DV.val false [C.d (D.slice 1 [[D.cpx FloatKind.f64 n9 n10], [D.cpx FloatKind.f64 n2 n3], [D.cpx FloatKind.f64 n11 n12]])]]) ([]) (RS.mk [(false, [CSh.d Sh.cpx])] []) (fun (((((n13 : Nat), (n14 : Nat)), _), _), _) =>
                some ((DV.val false [C.d (D.ptr [d0, d4, D.int IntKind.i64 i1, D.cpx FloatKind.f64 n2 n3, D.int IntKind.i64 (IntKind.wrap IntKind.i64 (1 + if true = true then if i6 > i5 then i6 else i5 else if i6 < i5 then i6 else i5)), D.int IntKind.i64 (IntKind.wrap IntKind.i64 (IntKind.wrap IntKind.i64 (i7 + 1) + i8)), D.cpx FloatKind.f64 n13 n14])], [])))))))))
theorem r24 (fx : Fx (DV × Heap)) (d0 : D) (i1 : Int) (n2 : Nat) (n3 : Nat) (d4 : D) : fnK T kt fx 24 Try.f24 ([DV.val false [C.d d0], DV.val true [C.d (D.int IntKind.i64 i1), C.d (D.cpx FloatKind.f64 n2 n3)], DV.val false [C.d d4]]) ([]) = g24 fx d0 i1 n2 n3 d4 := by kernel_rfl
/-! gloss/rope.split -/
noncomputable def g25 (fx : Fx (DV × Heap)) (d0 : D) (i1 : Int) : Option (DV × Heap) :=
  fx.isnil d0
    (some ((DV.tup [(false, [C.d D.nilp]), (false, [C.d D.nilp])], [])))
    (fx.nn d0
      (fx.ptr d0 (fun (c2 : List D) =>
        fx.ptr (D.ptr (List.drop 0 c2)) (fun (c3 : List D) =>
          fx.load c3 ([Sh.any]) (fun ((d4 : D), _) =>
            fx.call (29) ([DV.val false [C.d d4]]) ([]) (RS.mk [(false, [CSh.d (Sh.int IntKind.i64)])] []) (fun ((((i5 : Int), _), _), _) =>
              cond (decide (i1 > i5))
                (fx.nn d0
                  (fx.ptr d0 (fun (c6 : List D) =>
                    fx.ptr (D.ptr (List.drop 1 c6)) (fun (c7 : List D) =>
                      fx.load c7 ([Sh.any]) (fun ((d8 : D), _) =>
                        fx.call (25) ([DV.val false [C.d d8], DV.val false [C.d (D.int IntKind.i64 (IntKind.wrap IntKind.i64 (IntKind.wrap IntKind.i64 (i1 - i5) - 1)))]]) ([]) (RS.mk [(false, [CSh.d Sh.any]), (false, [CSh.d Sh.any])] []) (fun ((((d9 : D), _), (((d10 : D), _), _)), _) =>
                          fx.nn d0
                            (fx.ptr d0 (fun (c11 : List D) =>
                              fx.ptr (D.ptr (List.drop 0 c11)) (fun (c12 : List D) =>
                                fx.load c12 ([Sh.any]) (fun ((d13 : D), _) =>
                                  fx.nn d0
                                    (fx.ptr d0 (fun (c14 : List D) =>
                                      fx.ptr (D.ptr (List.drop 2 c14)) (fun (c15 : List D) =>
                                        fx.load c15 ([Sh.int IntKind.i64, Sh.cpx]) (fun ((i16 : Int), (((n17 : Nat), (n18 : Nat)), _)) =>
                                          fx.call (31) ([DV.val false [C.d d13], DV.val true [C.d (D.int IntKind.i64 i16), C.d (D.cpx FloatKind.f64 n17 n18)], DV.val false [C.d d9]]) ([]) (RS.mk [(false, [CSh.d Sh.any])] []) (fun ((((d19 : D), _), _), _) =>
                                            some ((DV.tup [(false, [C.d d19]), (false, [C.d d10])], [])))))))))))))))))
                (fx.nn d0
                  (fx.ptr d0 (fun (c20 : List D) =>
                    fx.ptr (D.ptr (List.drop 0 c20)) (fun (c21 : List D) =>
                      fx.load c21 ([Sh.any]) (fun ((d22 : D), _) =>
                        fx.call (25) ([DV.val false [C.d d22], DV.val false [C.d (D.int IntKind.i64 i1)]]) ([]) (RS.mk [(false, [CSh.d Sh.any]), (false, [CSh.d Sh.any])] []) (fun ((((d23 : D), _), (((d24 : D), _), _)), _) =>
                          fx.nn d0
                            (fx.ptr d0 (fun (c25 : List D) =>
                              fx.ptr (D.ptr (List.drop 2 c25)) (fun (c26 : List D) =>
                                fx.load c26 ([Sh.int IntKind.i64, Sh.cpx]) (fun ((i27 : Int), (((n28 : Nat), (n29 : Nat)), _)) =>
                                  fx.nn d0
                                    (fx.ptr d0 (fun (c30 : List D) =>
                                      fx.ptr (D.ptr (List.drop 1 c30)) (fun (c31 : List D) =>
                                        fx.load c31 ([Sh.any]) (fun ((d32 : D), _) =>
                                          fx.call (31) ([DV.val false [C.d d24], DV.val true [C.d (D.int IntKind.i64 i27), C.d (D.cpx FloatKind.f64 n28 n29)], DV.val false [C.d d32]]) ([]) (RS.mk [(false, [CSh.d Sh.any])] []) (fun ((((d33 : D), _), _), _) =>
                                            some ((DV.tup [(false, [C.d d23]), (false, [C.d d33])], [])))))))))))))))))))))))
theorem r25 (fx : Fx (DV × Heap)) (d0 : D) (i1 : Int) : fnK T kt fx 25 Try.f25 ([DV.val false [C.d d0], DV.val false [C.d (D.int IntKind.i64 i1)]]) ([]) = g25 fx d0 i1 := by kernel_rfl
/-! gloss/rope.join -/
noncomputable def g26 (fx : Fx (DV × Heap)) (d0 : D) (d1 : D) : Option (DV × Heap) :=
  fx.isnil d1
    (some ((DV.val false [C.d d0], [])))
    (fx.call (32) ([DV.val false [C.d d1]]) ([]) (RS.mk [(true, [CSh.d (Sh.int IntKind.i64), CSh.d Sh.cpx]), (false, [CSh.d Sh.any])] []) (fun ((((i2 : Int), (((n3 : Nat), (n4 : Nat)), _)), (((d5 : D), _), _)), _) =>
      fx.call (31) ([DV.val false [C.d d0], DV.val true [C.d (D.int IntKind.i64 i2), C.d (D.cpx FloatKind.f64 n3 n4)], DV.val false [C.d d5]]) ([]) (RS.mk [(false, [CSh.d Sh.any])] []) (fun ((((d6 : D), _), _), _) =>
        some ((DV.val false [C.d d6], [])))))
theorem r26 (fx : Fx (DV × Heap)) (d0 : D) (d1 : D) : fnK T kt fx 26 Try.f26 ([DV.val false [C.d d0], DV.val false [C.d d1]]) ([]) = g26 fx d0 d1 := by kernel_rfl
/-! gloss/rope.add -/
noncomputable def g27 (fx : Fx (DV × Heap)) (d0 : D) (l1 : List (List D)) : Option (DV × Heap) :=
  fx.isnil d0
    (some ((DV.val false [C.arr 1], [Ob.dead, Ob.arr false false 29 2 l1])))
    (fx.nn d0
      (fx.ptr d0 (fun (c2 : List D) =>
        fx.ptr (D.ptr (List.drop 0 c2)) (fun (c3 : List D) =>
          fx.load c3 ([Sh.any]) (fun ((d4 : D), _) =>
            fx.call (27) ([DV.val false [C.arr 0], DV.val false [C.d d4]]) ([Ob.arr false false 29 2 l1]) (RS.mk [(false, [CSh.ref (C.arr 1)])] [OSh.dead, OSh.arr false false 29 2]) (fun (((_, _), _), (_, ((l5 : List (List D)), _))) =>
              fx.nn d0
                (fx.ptr d0 (fun (c6 : List D) =>
                  fx.ptr (D.ptr (List.drop 2 c6)) (fun (c7 : List D) =>
                    fx.load c7 ([Sh.int IntKind.i64, Sh.cpx]) (fun ((i8 : Int), (((n9 : Nat), (n10 : Nat)), _)) =>
                      fx.chk (decide (List.length l5 + 1 ≤ 1048576))
                        (fx.nn d0
                          (fx.ptr d0 (fun (c11 : List D) =>
                            fx.ptr (D.ptr (List.drop 1 c11)) (fun (c12 : List D) =>
                              fx.load c12 ([Sh.any]) (fun ((d13 : D), _) =>
                                fx.call (27) ([DV.val false [C.arr 0], DV.val false [C.d d13]]) ([Ob.arr false false 29 2 (l5 ++ [[D.int IntKind.i64 i8, D.cpx FloatKind.f64 n9 n10]])]) (RS.mk [(false, [CSh.ref (C.arr 1)])] [OSh.dead, OSh.arr false false 29 2]) (fun (((_, _), _), (_, ((l14 : List (List D)), _))) =>
                                  some ((DV.val false [C.arr 1], [Ob.dead, Ob.arr false false 29 2 l14]))))))))))))))))))
theorem r27 (fx : Fx (DV × Heap)) (d0 : D) (l1 : List (List D)) : fnK T kt fx 27 Try.f27 ([DV.val false [C.arr 0], DV.val false [C.d d0]]) ([Ob.arr false false 29 2 l1]) = g27 fx d0 l1 := by kernel_rfl
/-! gloss/rope.weight -/
noncomputable def g28 (fx : Fx (DV × Heap)) (d0 : D) : Option (DV × Heap) :=
  fx.isnil d0
    (some ((DV.val false [C.d (D.cpx FloatKind.f64 0 0)], [])))
    (fx.nn d0
      (fx.ptr d0 (fun (c1 : List D) =>
        fx.ptr (D.ptr (List.drop 6 c1)) (fun (c2 : List D) =>
          fx.load c2 ([Sh.cpx]) (fun (((n3 : Nat), (n4 : Nat)), _) =>
            some ((DV.val false [C.d (D.cpx FloatKind.f64 n3 n4)], [])))))))
theorem r28 (fx : Fx (DV × Heap)) (d0 : D) : fnK T kt fx 28 Try.f28 ([DV.val false [C.d d0]]) ([]) = g28 fx d0 := by kernel_rfl
/-! gloss/rope.count -/
noncomputable def g29 (fx : Fx (DV × Heap)) (d0 : D) : Option (DV × Heap) :=
  fx.isnil d0
    (some ((DV.val false [C.d (D.int IntKind.i64 0)], [])))
    (fx.nn d0
      (fx.ptr d0 (fun (c1 : List D) =>
        fx.ptr (D.ptr (List.drop 5 c1)) (fun (c2 : List D) =>
          fx.load c2 ([Sh.int IntKind.i64]) (fun ((i3 : Int), _) =>
            some ((DV.val false [C.d (D.int IntKind.i64 i3)], [])))))))
theorem r29 (fx : Fx (DV × Heap)) (d0 : D) : fnK T kt fx 29 Try.f29 ([DV.val false [C.d d0]]) ([]) = g29 fx d0 := by kernel_rfl
/-! gloss/rope.height -/
noncomputable def g30 (fx : Fx (DV × Heap)) (d0 : D) : Option (DV × Heap) :=
  fx.isnil d0
    (some ((DV.val false [C.d (D.int IntKind.i64 0)], [])))
    (fx.nn d0
      (fx.ptr d0 (fun (c1 : List D) =>
        fx.ptr (D.ptr (List.drop 4 c1)) (fun (c2 : List D) =>
          fx.load c2 ([Sh.int IntKind.i64]) (fun ((i3 : Int), _) =>
            some ((DV.val false [C.d (D.int IntKind.i64 i3)], [])))))))
theorem r30 (fx : Fx (DV × Heap)) (d0 : D) : fnK T kt fx 30 Try.f30 ([DV.val false [C.d d0]]) ([]) = g30 fx d0 := by kernel_rfl
/-! gloss/rope.link -/
noncomputable def g31 (fx : Fx (DV × Heap)) (d0 : D) (i1 : Int) (n2 : Nat) (n3 : Nat) (d4 : D) : Option (DV × Heap) :=
  fx.call (30) ([DV.val false [C.d d0]]) ([]) (RS.mk [(false, [CSh.d (Sh.int IntKind.i64)])] []) (fun ((((i5 : Int), _), _), _) =>
    fx.call (30) ([DV.val false [C.d d4]]) ([]) (RS.mk [(false, [CSh.d (Sh.int IntKind.i64)])] []) (fun ((((i6 : Int), _), _), _) =>
      cond (decide (i5 > IntKind.wrap IntKind.i64 (i6 + 1)))
        (fx.nn d0
          (fx.ptr d0 (fun (c7 : List D) =>
            fx.ptr (D.ptr (List.drop 0 c7)) (fun (c8 : List D) =>
              fx.load c8 ([Sh.any]) (fun ((d9 : D), _) =>
                fx.nn d0
                  (fx.ptr d0 (fun (c10 : List D) =>
                    fx.ptr (D.ptr (List.drop 2 c10)) (fun (c11 : List D) =>
                      fx.load c11 ([Sh.int IntKind.i64, Sh.cpx]) (fun ((i12 : Int), (((n13 : Nat), (n14 : Nat)), _)) =>
                        fx.nn d0
                          (fx.ptr d0 (fun (c15 : List D) =>
                            fx.ptr (D.ptr (List.drop 1 c15)) (fun (c16 : List D) =>
                              fx.load c16 ([Sh.any]) (fun ((d17 : D), _) =>
                                fx.call (31) ([DV.val false [C.d d17], DV.val true [C.d (D.int IntKind.i64 i1), C.d (D.cpx FloatKind.f64 n2 n3)], DV.val false [C.d d4]]) ([]) (RS.mk [(false, [CSh.d Sh.any])] []) (fun ((((d18 : D), _), _), _) =>
                                  fx.call (33) ([DV.val false [C.d d9], DV.val true [C.d (D.int IntKind.i64 i12), C.d (D.cpx FloatKind.f64 n13 n14)], DV.val false [C.d d18]]) ([]) (RS.mk [(false, [CSh.d Sh.any])] []) (fun ((((d19 : D), _), _), _) =>
                                    some ((DV.val false [C.d d19], [])))))))))))))))))
        (fx.call (30) ([DV.val false [C.d d4]]) ([]) (RS.mk [(false, [CSh.d (Sh.int IntKind.i64)])] []) (fun ((((i20 : Int), _), _), _) =>
          fx.call (30) ([DV.val false [C.d d0]]) ([]) (RS.mk [(false, [CSh.d (Sh.int IntKind.i64)])] []) (fun ((((i21 : Int), _), _), _) =>
            cond (decide (i20 > IntKind.wrap IntKind.i64 (i21 + 1)))
              (fx.nn d4
                (fx.ptr d4 (fun (c22 : List D) =>
                  fx.ptr (D.ptr (List.drop 0 c22)) (fun (c23 : List D) =>
                    fx.load c23 ([Sh.any]) (fun ((d24 : D), _) =>
                      fx.call (31) ([DV.val false [C.d d0], DV.val true [C.d (D.int IntKind.i64 i1), C.d (D.cpx FloatKind.f64 n2 n3)], DV.val false [C.d d24]]) ([]) (RS.mk [(false, [CSh.d Sh.any])] []) (fun ((((d25 : D), _), _), _) =>
                        fx.nn d4
                          (fx.ptr d4 (fun (c26 : List D) =>
                            fx.ptr (D.ptr (List.drop 2 c26)) (fun (c27 : List D) =>
                              fx.load c27 ([Sh.int IntKind.i64, Sh.cpx]) (fun ((i28 : Int), (((n29 : Nat), (n30 : Nat)), _)) =>
                                fx.nn d4
                                  (fx.ptr d4 (fun (c31 : List D) =>
                                    fx.ptr (D.ptr (List.drop 1 c31)) (fun (c32 : List D) =>
                                      fx.load c32 ([Sh.any]) (fun ((d33 : D), _) =>
                                        fx.call (33) ([DV.val false [C.d d25], DV.val true [C.d (D.int IntKind.i64 i28), C.d (D.cpx FloatKind.f64 n29 n30)], DV.val false [C.d d33]]) ([]) (RS.mk [(false, [CSh.d Sh.any])] []) (fun ((((d34 : D), _), _), _) =>
                                          some ((DV.val false [C.d d34], [])))))))))))))))))
              (fx.call (24) ([DV.val false [C.d d0], DV.val true [C.d (D.int IntKind.i64 i1), C.d (D.cpx FloatKind.f64 n2 n3)], DV.val false [C.d d4]]) ([]) (RS.mk [(false, [CSh.d Sh.any])] []) (fun ((((d35 : D), _), _), _) =>
                some ((DV.val false [C.d d35], [])))))))))
theorem r31 (fx : Fx (DV × Heap)) (d0 : D) (i1 : Int) (n2 : Nat) (n3 : Nat) (d4 : D) : fnK T kt fx 31 Try.f31 ([DV.val false [C.d d0], DV.val true [C.d (D.int IntKind.i64 i1), C.d (D.cpx FloatKind.f64 n2 n3)], DV.val false [C.d d4]]) ([]) = g31 fx d0 i1 n2 n3 d4 := by kernel_rfl
/-! gloss/rope.first -/
noncomputable def g32 (fx : Fx (DV × Heap)) (d0 : D) : Option (DV × Heap) :=
  fx.nn d0
    (fx.ptr d0 (fun (c1 : List D) =>
      fx.ptr (D.ptr (List.drop 0 c1)) (fun (c2 : List D) =>
        fx.load c2 ([Sh.any]) (fun ((d3 : D), _) =>
          fx.isnil d3
            (fx.nn d0
              (fx.ptr d0 (fun (c4 : List D) =>
                fx.ptr (D.ptr (List.drop 2 c4)) (fun (c5 : List D) =>
                  fx.load c5 ([Sh.int IntKind.i64, Sh.cpx]) (fun ((i6 : Int), (((n7 : Nat), (n8 : Nat)), _)) =>
                    fx.nn d0
                      (fx.ptr d0 (fun (c9 : List D) =>
                        fx.ptr (D.ptr (List.drop 1 c9)) (fun (c10 : List D) =>
                          fx.load c10 ([Sh.any]) (fun ((d11 : D), _) =>
                            some ((DV.tup [(true, [C.d (D.int IntKind.i64 i6), C.d (D.cpx FloatKind.f64 n7 n8)]), (false, [C.d d11])], [])))))))))))
            (fx.nn d0
              (fx.ptr d0 (fun (c12 : List D) =>
                fx.ptr (D.ptr (List.drop 0 c12)) (fun (c13 : List D) =>
                  fx.load c13 ([Sh.any]) (fun ((d14 : D), _) =>
                    fx.call (32) ([DV.val false [C.d d14]]) ([]) (RS.mk [(true, [CSh.d (Sh.int IntKind.i64), CSh.d Sh.cpx]), (false, [CSh.d Sh.any])] []) (fun ((((i15 : Int), (((n16 : Nat), (n17 : Nat)), _)), (((d18 : D), _), _)), _) =>
                      fx.nn d0
                        (fx.ptr d0 (fun (c19 : List D) =>
                          fx.ptr (D.ptr (List.drop 2 c19)) (fun (c20 : List D) =>
                            fx.load c20 ([Sh.int IntKind.i64, Sh.cpx]) (fun ((i21 : Int), (((n22 : Nat), (n23 : Nat)), _)) =>
                              fx.nn d0
                                (fx.ptr d0 (fun (c24 : List D) =>
                                  fx.ptr (D.ptr (List.drop 1 c24)) (fun (c25 : List D) =>
                                    fx.load c25 ([Sh.any]) (fun ((d26 : D), _) =>
                                      fx.call (33) ([DV.val false [C.d d18], DV.val true [C.d (D.int IntKind.i64 i21), C.d (D.cpx FloatKind.f64 n22 n23)], DV.val false [C.d d26]]) ([]) (RS.mk [(false, [CSh.d Sh.any])] []) (fun ((((d27 : D), _), _), _) =>
                                        some ((DV.tup [(true, [C.d (D.int IntKind.i64 i15), C.d (D.cpx FloatKind.f64 n16 n17)]), (false, [C.d d27])], [])))))))))))))))))))))
theorem r32 (fx : Fx (DV × Heap)) (d0 : D) : fnK T kt fx 32 Try.f32 ([DV.val false [C.d d0]]) ([]) = g32 fx d0 := by kernel_rfl
/-! gloss/rope.lean -/
noncomputable def g33 (fx : Fx (DV × Heap)) (d0 : D) (i1 : Int) (n2 : Nat) (n3 : Nat) (d4 : D) : Option (DV × Heap) :=
  fx.call (30) ([DV.val false [C.d d0]]) ([]) (RS.mk [(false, [CSh.d (Sh.int IntKind.i64)])] []) (fun ((((i5 : Int), _), _), _) =>
    fx.call (30) ([DV.val false [C.d d4]]) ([]) (RS.mk [(false, [CSh.d (Sh.int IntKind.i64)])] []) (fun ((((i6 : Int), _), _), _) =>
      cond (decide (i5 > IntKind.wrap IntKind.i64 (i6 + 1)))
        (fx.nn d0
          (fx.ptr d0 (fun (c7 : List D) =>
            fx.ptr (D.ptr (List.drop 0 c7)) (fun (c8 : List D) =>
              fx.load c8 ([Sh.any]) (fun ((d9 : D), _) =>
                fx.call (30) ([DV.val false [C.d d9]]) ([]) (RS.mk [(false, [CSh.d (Sh.int IntKind.i64)])] []) (fun ((((i10 : Int), _), _), _) =>
                  fx.nn d0
                    (fx.ptr d0 (fun (c11 : List D) =>
                      fx.ptr (D.ptr (List.drop 1 c11)) (fun (c12 : List D) =>
                        fx.load c12 ([Sh.any]) (fun ((d13 : D), _) =>
                          fx.call (30) ([DV.val false [C.d d13]]) ([]) (RS.mk [(false, [CSh.d (Sh.int IntKind.i64)])] []) (fun ((((i14 : Int), _), _), _) =>
                            cond (decide (i10 ≥ i14))
                              (fx.nn d0
                                (fx.ptr d0 (fun (c15 : List D) =>
                                  fx.ptr (D.ptr (List.drop 0 c15)) (fun (c16 : List D) =>
                                    fx.load c16 ([Sh.any]) (fun ((d17 : D), _) =>
                                      fx.nn d0
                                        (fx.ptr d0 (fun (c18 : List D) =>
                                          fx.ptr (D.ptr (List.drop 2 c18)) (fun (c19 : List D) =>
                                            fx.load c19 ([Sh.int IntKind.i64, Sh.cpx]) (fun ((i20 : Int), (((n21 : Nat), (n22 : Nat)), _)) =>
                                              fx.nn d0
                                                (fx.ptr d0 (fun (c23 : List D) =>
                                                  fx.ptr (D.ptr (List.drop 1 c23)) (fun (c24 : List D) =>
                                                    fx.load c24 ([Sh.any]) (fun ((d25 : D), _) =>
                                                      fx.call (24) ([DV.val false [C.d d25], DV.val true [C.d (D.int IntKind.i64 i1), C.d (D.cpx FloatKind.f64 n2 n3)], DV.val false [C.d d4]]) ([]) (RS.mk [(false, [CSh.d Sh.any])] []) (fun ((((d26 : D), _), _), _) =>
                                                        fx.call (24) ([DV.val false [C.d d17], DV.val true [C.d (D.int IntKind.i64 i20), C.d (D.cpx FloatKind.f64 n21 n22)], DV.val false [C.d d26]]) ([]) (RS.mk [(false, [CSh.d Sh.any])] []) (fun ((((d27 : D), _), _), _) =>
                                                          some ((DV.val false [C.d d27], [])))))))))))))))))
                              (fx.nn d0
                                (fx.ptr d0 (fun (c28 : List D) =>
                                  fx.ptr (D.ptr (List.drop 1 c28)) (fun (c29 : List D) =>
                                    fx.load c29 ([Sh.any]) (fun ((d30 : D), _) =>
                                      fx.nn d0
                                        (fx.ptr d0 (fun (c31 : List D) =>
                                          fx.ptr (D.ptr (List.drop 0 c31)) (fun (c32 : List D) =>
                                            fx.load c32 ([Sh.any]) (fun ((d33 : D), _) =>
                                              fx.nn d0
                                                (fx.ptr d0 (fun (c34 : List D) =>
                                                  fx.ptr (D.ptr (List.drop 2 c34)) (fun (c35 : List D) =>
                                                    fx.load c35 ([Sh.int IntKind.i64, Sh.cpx]) (fun ((i36 : Int), (((n37 : Nat), (n38 : Nat)), _)) =>
                                                      fx.nn d30
                                                        (fx.ptr d30 (fun (c39 : List D) =>
                                                          fx.ptr (D.ptr (List.drop 0 c39)) (fun (c40 : List D) =>
                                                            fx.load c40 ([Sh.any]) (fun ((d41 : D), _) =>
                                                              fx.call (24) ([DV.val false [C.d d33], DV.val true [C.d (D.int IntKind.i64 i36), C.d (D.cpx FloatKind.f64 n37 n38)], DV.val false [C.d d41]]) ([]) (RS.mk [(false, [CSh.d Sh.any])] []) (fun ((((d42 : D), _), _), _) =>
                                                                fx.nn d30
                                                                  (fx.ptr d30 (fun (c43 : List D) =>
                                                                    fx.ptr (D.ptr (List.drop 2 c43)) (fun (c44 : List D) =>
                                                                      fx.load c44 ([Sh.int IntKind.i64, Sh.cpx]) (fun ((i45 : Int), (((n46 : Nat), (n47 : Nat)), _)) =>
                                                                        fx.nn d30
                                                                          (fx.ptr d30 (fun (c48 : List D) =>
                                                                            fx.ptr (D.ptr (List.drop 1 c48)) (fun (c49 : List D) =>
                                                                              fx.load c49 ([Sh.any]) (fun ((d50 : D), _) =>
                                                                                fx.call (24) ([DV.val false [C.d d50], DV.val true [C.d (D.int IntKind.i64 i1), C.d (D.cpx FloatKind.f64 n2 n3)], DV.val false [C.d d4]]) ([]) (RS.mk [(false, [CSh.d Sh.any])] []) (fun ((((d51 : D), _), _), _) =>
                                                                                  fx.call (24) ([DV.val false [C.d d42], DV.val true [C.d (D.int IntKind.i64 i45), C.d (D.cpx FloatKind.f64 n46 n47)], DV.val false [C.d d51]]) ([]) (RS.mk [(false, [CSh.d Sh.any])] []) (fun ((((d52 : D), _), _), _) =>
                                                                                    some ((DV.val false [C.d d52], [])))))))))))))))))))))))))))))))))))))))))
        (fx.call (30) ([DV.val false [C.d d4]]) ([]) (RS.mk [(false, [CSh.d (Sh.int IntKind.i64)])] []) (fun ((((i53 : Int), _), _), _) =>
          fx.call (30) ([DV.val false [C.d d0]]) ([]) (RS.mk [(false, [CSh.d (Sh.int IntKind.i64)])] []) (fun ((((i54 : Int), _), _), _) =>
            cond (decide (i53 > IntKind.wrap IntKind.i64 (i54 + 1)))
              (fx.nn d4
                (fx.ptr d4 (fun (c55 : List D) =>
                  fx.ptr (D.ptr (List.drop 1 c55)) (fun (c56 : List D) =>
                    fx.load c56 ([Sh.any]) (fun ((d57 : D), _) =>
                      fx.call (30) ([DV.val false [C.d d57]]) ([]) (RS.mk [(false, [CSh.d (Sh.int IntKind.i64)])] []) (fun ((((i58 : Int), _), _), _) =>
                        fx.nn d4
                          (fx.ptr d4 (fun (c59 : List D) =>
                            fx.ptr (D.ptr (List.drop 0 c59)) (fun (c60 : List D) =>
                              fx.load c60 ([Sh.any]) (fun ((d61 : D), _) =>
                                fx.call (30) ([DV.val false [C.d d61]]) ([]) (RS.mk [(false, [CSh.d (Sh.int IntKind.i64)])] []) (fun ((((i62 : Int), _), _), _) =>
                                  cond (decide (i58 ≥ i62))
                                    (fx.nn d4
                                      (fx.ptr d4 (fun (c63 : List D) =>
                                        fx.ptr (D.ptr (List.drop 0 c63)) (fun (c64 : List D) =>
                                          fx.load c64 ([Sh.any]) (fun ((d65 : D), _) =>
                                            fx.call (24) ([DV.val false [C.d d0], DV.val true [C.d (D.int IntKind.i64 i1), C.d (D.cpx FloatKind.f64 n2 n3)], DV.val false [C.d d65]]) ([]) (RS.mk [(false, [CSh.d Sh.any])] []) (fun ((((d66 : D), _), _), _) =>
                                              fx.nn d4
                                                (fx.ptr d4 (fun (c67 : List D) =>
                                                  fx.ptr (D.ptr (List.drop 2 c67)) (fun (c68 : List D) =>
                                                    fx.load c68 ([Sh.int IntKind.i64, Sh.cpx]) (fun ((i69 : Int), (((n70 : Nat), (n71 : Nat)), _)) =>
                                                      fx.nn d4
                                                        (fx.ptr d4 (fun (c72 : List D) =>
                                                          fx.ptr (D.ptr (List.drop 1 c72)) (fun (c73 : List D) =>
                                                            fx.load c73 ([Sh.any]) (fun ((d74 : D), _) =>
                                                              fx.call (24) ([DV.val false [C.d d66], DV.val true [C.d (D.int IntKind.i64 i69), C.d (D.cpx FloatKind.f64 n70 n71)], DV.val false [C.d d74]]) ([]) (RS.mk [(false, [CSh.d Sh.any])] []) (fun ((((d75 : D), _), _), _) =>
                                                                some ((DV.val false [C.d d75], [])))))))))))))))))
                                    (fx.nn d4
                                      (fx.ptr d4 (fun (c76 : List D) =>
                                        fx.ptr (D.ptr (List.drop 0 c76)) (fun (c77 : List D) =>
                                          fx.load c77 ([Sh.any]) (fun ((d78 : D), _) =>
                                            fx.nn d78
                                              (fx.ptr d78 (fun (c79 : List D) =>
                                                fx.ptr (D.ptr (List.drop 0 c79)) (fun (c80 : List D) =>
                                                  fx.load c80 ([Sh.any]) (fun ((d81 : D), _) =>
                                                    fx.call (24) ([DV.val false [C.d d0], DV.val true [C.d (D.int IntKind.i64 i1), C.d (D.cpx FloatKind.f64 n2 n3)], DV.val false [C.d d81]]) ([]) (RS.mk [(false, [CSh.d Sh.any])] []) (fun ((((d82 : D), _), _), _) =>
                                                      fx.nn d78
                                                        (fx.ptr d78 (fun (c83 : List D) =>
                                                          fx.ptr (D.ptr (List.drop 2 c83)) (fun (c84 : List D) =>
                                                            fx.load c84 ([Sh.int IntKind.i64, Sh.cpx]) (fun ((i85 : Int), (((n86 : Nat), (n87 : Nat)), _)) =>
                                                              fx.nn d78
                                                                (fx.ptr d78 (fun (c88 : List D) =>
                                                                  fx.ptr (D.ptr (List.drop 1 c88)) (fun (c89 : List D) =>
                                                                    fx.load c89 ([Sh.any]) (fun ((d90 : D), _) =>
                                                                      fx.nn d4
                                                                        (fx.ptr d4 (fun (c91 : List D) =>
                                                                          fx.ptr (D.ptr (List.drop 2 c91)) (fun (c92 : List D) =>
                                                                            fx.load c92 ([Sh.int IntKind.i64, Sh.cpx]) (fun ((i93 : Int), (((n94 : Nat), (n95 : Nat)), _)) =>
                                                                              fx.nn d4
                                                                                (fx.ptr d4 (fun (c96 : List D) =>
                                                                                  fx.ptr (D.ptr (List.drop 1 c96)) (fun (c97 : List D) =>
                                                                                    fx.load c97 ([Sh.any]) (fun ((d98 : D), _) =>
                                                                                      fx.call (24) ([DV.val false [C.d d90], DV.val true [C.d (D.int IntKind.i64 i93), C.d (D.cpx FloatKind.f64 n94 n95)], DV.val false [C.d d98]]) ([]) (RS.mk [(false, [CSh.d Sh.any])] []) (fun ((((d99 : D), _), _), _) =>
                                                                                        fx.call (24) ([DV.val false [C.d d82], DV.val true [C.d (D.int IntKind.i64 i85), C.d (D.cpx FloatKind.f64 n86 n87)], DV.val false [C.d d99]]) ([]) (RS.mk [(false, [CSh.d Sh.any])] []) (fun ((((d100 : D), _), _), _) =>
                                                                                          some ((DV.val false [C.d d100], [])))))))))))))))))))))))))))))))))))))))))
              (fx.call (24) ([DV.val false [C.d d0], DV.val true [C.d (D.int IntKind.i64 i1), C.d (D.cpx FloatKind.f64 n2 n3)], DV.val false [C.d d4]]) ([]) (RS.mk [(false, [CSh.d Sh.any])] []) (fun ((((d101 : D), _), _), _) =>
                some ((DV.val false [C.d d101], [])))))))))
theorem r33 (fx : Fx (DV × Heap)) (d0 : D) (i1 : Int) (n2 : Nat) (n3 : Nat) (d4 : D) : fnK T kt fx 33 Try.f33 ([DV.val false [C.d d0], DV.val true [C.d (D.int IntKind.i64 i1), C.d (D.cpx FloatKind.f64 n2 n3)], DV.val false [C.d d4]]) ([]) = g33 fx d0 i1 n2 n3 d4 := by kernel_rfl
/-! (runtime.boundsError).Error -/
noncomputable def g34 (fx : Fx (DV × Heap)) (i0 : Int) (i1 : Int) (b2 : Bool) (i3 : Int) : Option (DV × Heap) :=
  some ((DV.tup [], []))
theorem r34 (fx : Fx (DV × Heap)) (i0 : Int) (i1 : Int) (b2 : Bool) (i3 : Int) : fnK T kt fx 34 Try.f34 ([DV.val true [C.d (D.int IntKind.i64 i0), C.d (D.int IntKind.i64 i1), C.d (D.bool b2), C.d (D.int IntKind.u8 i3)]]) ([]) = g34 fx i0 i1 b2 i3 := by kernel_rfl
/-! (runtime.boundsError).RuntimeError -/
noncomputable def g35 (fx : Fx (DV × Heap)) (i0 : Int) (i1 : Int) (b2 : Bool) (i3 : Int) : Option (DV × Heap) :=
  some ((DV.tup [], []))
theorem r35 (fx : Fx (DV × Heap)) (i0 : Int) (i1 : Int) (b2 : Bool) (i3 : Int) : fnK T kt fx 35 Try.f35 ([DV.val true [C.d (D.int IntKind.i64 i0), C.d (D.int IntKind.i64 i1), C.d (D.bool b2), C.d (D.int IntKind.u8 i3)]]) ([]) = g35 fx i0 i1 b2 i3 := by kernel_rfl
/-! (runtime.errorString).Error -/
noncomputable def g36 (fx : Fx (DV × Heap)) (s0 : List Nat) : Option (DV × Heap) :=
  some ((DV.tup [], []))
theorem r36 (fx : Fx (DV × Heap)) (s0 : List Nat) : fnK T kt fx 36 Try.f36 ([DV.val false [C.d (D.str s0)]]) ([]) = g36 fx s0 := by kernel_rfl
end Go.Proofs.TryI
