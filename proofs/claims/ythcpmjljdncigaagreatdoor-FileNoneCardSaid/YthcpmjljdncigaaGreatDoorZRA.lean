/- PRINTED BY Gen.lean. No conditions. -/
import Derived.Test.YthcpmjljdncigaaGreatDoorZCfg
namespace Go.Proofs.YthcpmjljdncigaaGreatDoor
open Go Go.V
set_option maxRecDepth 20000
-- 77 strings.Index
noncomputable def r77_0 : Array Oper := regionOf Tryz.f77.body 0
noncomputable def r77_1 : Array Oper := regionOf Tryz.f77.body 1
noncomputable def b77 : Code := (.seq (.region 0 r77_0 false) (.seq (.region 1 r77_1 false) .ret))
theorem f77_body : Tryz.f77.body = some b77 := by kernel_rfl
theorem R77_0 {K : List Item} {env : Env} {D : List DV} {H : Heap} : runL C1 none Tryz.f77 (.code (.region 0 r77_0 false) :: K) env D H = flatK Tryz.prog (callL C1) [(none, some 4, .assign (.const (.int .i64 (0))))] env H (kont C1 none Tryz.f77 K (some [0, 1]) D) :=
  runL_flatE rfl (by kernel_rfl) (by kernel_rfl) (by kernel_rfl) (by kernel_rfl)
theorem R77_1 {K : List Item} {env : Env} {D : List DV} {H : Heap} : runL C1 none Tryz.f77 (.code (.region 1 r77_1 false) :: K) env D H = flatK Tryz.prog (callL C1) [(none, some 5, .move (.tmp 0)),
    (none, some 6, .move (.tmp 1)),
    (none, some 7, .call ⟨(.value (.func 99)), #[(.tmp 5), (.tmp 6)], #[9, 9]⟩),
    (none, some 4, .assign (.tmp 7))] env H (kont C1 none Tryz.f77 K (some [4]) D) :=
  runL_flatE rfl (by kernel_rfl) (by kernel_rfl) (by kernel_rfl) (by kernel_rfl)
theorem FIN77 {env : Env} {H : Heap} : finishV Tryz.prog Tryz.f77 env H = some ((env 4), H) := by kernel_rfl
theorem KL77_0 : keepLOf Tryz.f77 0 = some [0, 1] := by kernel_rfl
theorem KL77_1 : keepLOf Tryz.f77 1 = some [0, 1] := by kernel_rfl
-- 99 internal/stringslite.Index
noncomputable def r99_0 : Array Oper := regionOf Tryz.f99.body 0
noncomputable def r99_1 : Array Oper := regionOf Tryz.f99.body 1
noncomputable def r99_2 : Array Oper := regionOf Tryz.f99.body 2
noncomputable def r99_3 : Array Oper := regionOf Tryz.f99.body 3
noncomputable def r99_4 : Array Oper := regionOf Tryz.f99.body 4
noncomputable def r99_5 : Array Oper := regionOf Tryz.f99.body 5
noncomputable def r99_6 : Array Oper := regionOf Tryz.f99.body 6
noncomputable def r99_7 : Array Oper := regionOf Tryz.f99.body 7
noncomputable def r99_8 : Array Oper := regionOf Tryz.f99.body 8
noncomputable def r99_9 : Array Oper := regionOf Tryz.f99.body 9
noncomputable def r99_10 : Array Oper := regionOf Tryz.f99.body 10
noncomputable def r99_11 : Array Oper := regionOf Tryz.f99.body 11
noncomputable def r99_12 : Array Oper := regionOf Tryz.f99.body 12
noncomputable def r99_13 : Array Oper := regionOf Tryz.f99.body 13
noncomputable def r99_14 : Array Oper := regionOf Tryz.f99.body 14
noncomputable def r99_15 : Array Oper := regionOf Tryz.f99.body 15
noncomputable def r99_16 : Array Oper := regionOf Tryz.f99.body 16
noncomputable def r99_17 : Array Oper := regionOf Tryz.f99.body 17
noncomputable def r99_18 : Array Oper := regionOf Tryz.f99.body 18
noncomputable def r99_19 : Array Oper := regionOf Tryz.f99.body 19
noncomputable def r99_20 : Array Oper := regionOf Tryz.f99.body 20
noncomputable def r99_21 : Array Oper := regionOf Tryz.f99.body 21
noncomputable def r99_22 : Array Oper := regionOf Tryz.f99.body 22
noncomputable def r99_23 : Array Oper := regionOf Tryz.f99.body 23
noncomputable def r99_24 : Array Oper := regionOf Tryz.f99.body 24
noncomputable def r99_25 : Array Oper := regionOf Tryz.f99.body 25
noncomputable def r99_26 : Array Oper := regionOf Tryz.f99.body 26
noncomputable def r99_27 : Array Oper := regionOf Tryz.f99.body 27
noncomputable def r99_28 : Array Oper := regionOf Tryz.f99.body 28
noncomputable def r99_29 : Array Oper := regionOf Tryz.f99.body 29
noncomputable def r99_30 : Array Oper := regionOf Tryz.f99.body 30
noncomputable def r99_31 : Array Oper := regionOf Tryz.f99.body 31
noncomputable def r99_32 : Array Oper := regionOf Tryz.f99.body 32
noncomputable def r99_33 : Array Oper := regionOf Tryz.f99.body 33
noncomputable def r99_34 : Array Oper := regionOf Tryz.f99.body 34
noncomputable def r99_35 : Array Oper := regionOf Tryz.f99.body 35
noncomputable def c99_0 : Code := (.seq (.seq (.region 21 r99_21 false) (.cond (.tmp 93) (.seq (.region 22 r99_22 false) .ret) .skip)) (.seq (.region 23 r99_23 false) (.seq (.region 24 r99_24 false) (.seq (.region 25 r99_25 false) (.cond (.tmp 107) (.seq (.region 26 r99_26 false) (.seq (.seq (.region 27 r99_27 false) (.cond (.tmp 114) (.seq (.region 28 r99_28 false) .ret) .skip)) (.seq (.region 29 r99_29 false) .ret))) (.seq (.region 30 r99_30 false) (.cond (.tmp 132) (.seq (.region 31 r99_31 false) (.seq (.seq (.region 32 r99_32 false) (.cond (.tmp 139) (.seq (.region 33 r99_33 false) .ret) .skip)) (.seq (.region 34 r99_34 false) .ret))) .skip)))))))
--CONT 0 21
noncomputable def l99_1 : Code := (.seq (.seq (.region 15 r99_15 false) (.cond (.tmp 59) .skip (.exit 1))) (.block 2 (.seq (.seq (.region 16 r99_16 false) (.cond (.tmp 64) (.seq (.region 17 r99_17 false) (.seq (.seq (.region 18 r99_18 false) (.cond (.tmp 73) (.seq (.region 19 r99_19 false) .ret) .skip)) (.region 20 r99_20 false))) .skip)) c99_0)))
--LOOP 1 15
noncomputable def c99_2 : Code := (.seq (.region 35 r99_35 false) .ret)
--CONT 2 35
theorem Uc99_0 {ro : Option Nat} {fn : Func} {K : List Item} {env : Env} {D : List DV} {H : Heap} : runL C1 ro fn (.code c99_0 :: K) env D H = runL C1 ro fn (.code (.seq (.seq (.region 21 r99_21 false) (.cond (.tmp 93) (.seq (.region 22 r99_22 false) .ret) .skip)) (.seq (.region 23 r99_23 false) (.seq (.region 24 r99_24 false) (.seq (.region 25 r99_25 false) (.cond (.tmp 107) (.seq (.region 26 r99_26 false) (.seq (.seq (.region 27 r99_27 false) (.cond (.tmp 114) (.seq (.region 28 r99_28 false) .ret) .skip)) (.seq (.region 29 r99_29 false) .ret))) (.seq (.region 30 r99_30 false) (.cond (.tmp 132) (.seq (.region 31 r99_31 false) (.seq (.seq (.region 32 r99_32 false) (.cond (.tmp 139) (.seq (.region 33 r99_33 false) .ret) .skip)) (.seq (.region 34 r99_34 false) .ret))) .skip))))))) :: K) env D H := rfl
theorem Ul99_1 {ro : Option Nat} {fn : Func} {K : List Item} {env : Env} {D : List DV} {H : Heap} : runL C1 ro fn (.code l99_1 :: K) env D H = runL C1 ro fn (.code (.seq (.seq (.region 15 r99_15 false) (.cond (.tmp 59) .skip (.exit 1))) (.block 2 (.seq (.seq (.region 16 r99_16 false) (.cond (.tmp 64) (.seq (.region 17 r99_17 false) (.seq (.seq (.region 18 r99_18 false) (.cond (.tmp 73) (.seq (.region 19 r99_19 false) .ret) .skip)) (.region 20 r99_20 false))) .skip)) c99_0))) :: K) env D H := rfl
theorem Uc99_2 {ro : Option Nat} {fn : Func} {K : List Item} {env : Env} {D : List DV} {H : Heap} : runL C1 ro fn (.code c99_2 :: K) env D H = runL C1 ro fn (.code (.seq (.region 35 r99_35 false) .ret) :: K) env D H := rfl
noncomputable def b99 : Code := (.seq (.region 0 r99_0 false) (.seq (.region 1 r99_1 false) (.seq (.block 0 (.seq (.region 2 r99_2 false) (.cond (.tmp 16) (.seq (.region 3 r99_3 false) .ret) (.seq (.region 4 r99_4 false) (.cond (.tmp 24) (.seq (.region 5 r99_5 false) .ret) (.seq (.region 6 r99_6 false) (.cond (.tmp 31) (.seq (.region 7 r99_7 false) .ret) (.seq (.region 8 r99_8 false) (.cond (.tmp 36) (.seq (.region 9 r99_9 false) .ret) .skip))))))))) (.seq (.region 10 r99_10 false) (.seq (.region 11 r99_11 false) (.seq (.region 12 r99_12 false) (.seq (.region 13 r99_13 false) (.seq (.region 14 r99_14 false) (.seq (.block 1 (.loop l99_1)) c99_2)))))))))
theorem f99_body : Tryz.f99.body = some b99 := by kernel_rfl
theorem R99_0 {K : List Item} {env : Env} {D : List DV} {H : Heap} : runL C1 none Tryz.f99 (.code (.region 0 r99_0 false) :: K) env D H = flatK Tryz.prog (callL C1) [(none, some 4, .assign (.const (.int .i64 (0))))] env H (kont C1 none Tryz.f99 K (some [0, 1]) D) :=
  runL_flatE rfl (by kernel_rfl) (by kernel_rfl) (by kernel_rfl) (by kernel_rfl)
theorem R99_1 {K : List Item} {env : Env} {D : List DV} {H : Heap} : runL C1 none Tryz.f99 (.code (.region 1 r99_1 false) :: K) env D H = flatK Tryz.prog (callL C1) [(none, some 14, .move (.tmp 1)),
    (none, some 15, .call ⟨(.builtin .len), #[(.tmp 14)], #[9]⟩),
    (none, some 5, .assign (.tmp 15))] env H (kont C1 none Tryz.f99 K (some [0, 1, 5]) D) :=
  runL_flatE rfl (by kernel_rfl) (by kernel_rfl) (by kernel_rfl) (by kernel_rfl)
theorem R99_2 {K : List Item} {env : Env} {D : List DV} {H : Heap} : runL C1 none Tryz.f99 (.code (.region 2 r99_2 false) :: K) env D H = flatK Tryz.prog (callL C1) [(none, some 17, .move (.tmp 5)),
    (none, some 18, .binOp .eql 3 (.tmp 17) (.const (.int .i64 (0))) 3),
    (none, some 19, .move (.tmp 18)),
    (some (some 19, false), some 20, .move (.tmp 1)),
    (some (some 19, false), some 21, .move (.tmp 0)),
    (some (some 19, false), some 22, .binOp .eql 9 (.tmp 20) (.tmp 21) 9),
    (none, some 23, .pick (.tmp 19) (.const (.bool true)) (.tmp 22)),
    (none, some 16, .assign (.tmp 23))] env H (kont C1 none Tryz.f99 K (some [0, 1, 5, 16]) D) :=
  runL_flatE rfl (by kernel_rfl) (by kernel_rfl) (by kernel_rfl) (by kernel_rfl)
theorem R99_3 {K : List Item} {env : Env} {D : List DV} {H : Heap} : runL C1 none Tryz.f99 (.code (.region 3 r99_3 false) :: K) env D H = flatK Tryz.prog (callL C1) [(none, some 4, .assign (.const (.int .i64 (0))))] env H (kont C1 none Tryz.f99 K (some [4]) D) :=
  runL_flatE rfl (by kernel_rfl) (by kernel_rfl) (by kernel_rfl) (by kernel_rfl)
theorem R99_4 {K : List Item} {env : Env} {D : List DV} {H : Heap} : runL C1 none Tryz.f99 (.code (.region 4 r99_4 false) :: K) env D H = flatK Tryz.prog (callL C1) [(none, some 25, .move (.tmp 5)),
    (none, some 26, .binOp .eql 3 (.tmp 25) (.const (.int .i64 (1))) 3),
    (none, some 24, .assign (.tmp 26))] env H (kont C1 none Tryz.f99 K (some [0, 1, 5, 24]) D) :=
  runL_flatE rfl (by kernel_rfl) (by kernel_rfl) (by kernel_rfl) (by kernel_rfl)
theorem R99_5 {K : List Item} {env : Env} {D : List DV} {H : Heap} : runL C1 none Tryz.f99 (.code (.region 5 r99_5 false) :: K) env D H = flatK Tryz.prog (callL C1) [(none, some 27, .move (.tmp 0)),
    (none, some 28, .move (.tmp 1)),
    (none, some 29, .index 9 (.tmp 28) (.const (.int .i64 (0)))),
    (none, some 30, .call ⟨(.value (.func 112)), #[(.tmp 27), (.tmp 29)], #[9, 5]⟩),
    (none, some 4, .assign (.tmp 30))] env H (kont C1 none Tryz.f99 K (some [4]) D) :=
  runL_flatE rfl (by kernel_rfl) (by kernel_rfl) (by kernel_rfl) (by kernel_rfl)
theorem R99_6 {K : List Item} {env : Env} {D : List DV} {H : Heap} : runL C1 none Tryz.f99 (.code (.region 6 r99_6 false) :: K) env D H = flatK Tryz.prog (callL C1) [(none, some 32, .move (.tmp 5)),
    (none, some 33, .move (.tmp 0)),
    (none, some 34, .call ⟨(.builtin .len), #[(.tmp 33)], #[9]⟩),
    (none, some 35, .binOp .geq 3 (.tmp 32) (.tmp 34) 3),
    (none, some 31, .assign (.tmp 35))] env H (kont C1 none Tryz.f99 K (some [0, 1, 5, 31]) D) :=
  runL_flatE rfl (by kernel_rfl) (by kernel_rfl) (by kernel_rfl) (by kernel_rfl)
theorem R99_7 {K : List Item} {env : Env} {D : List DV} {H : Heap} : runL C1 none Tryz.f99 (.code (.region 7 r99_7 false) :: K) env D H = flatK Tryz.prog (callL C1) [(none, some 4, .assign (.const (.int .i64 (-1))))] env H (kont C1 none Tryz.f99 K (some [4]) D) :=
  runL_flatE rfl (by kernel_rfl) (by kernel_rfl) (by kernel_rfl) (by kernel_rfl)
theorem R99_8 {K : List Item} {env : Env} {D : List DV} {H : Heap} : runL C1 none Tryz.f99 (.code (.region 8 r99_8 false) :: K) env D H = flatK Tryz.prog (callL C1) [(none, some 37, .move (.tmp 5)),
    (none, some 38, .load 3 (.global 3)),
    (none, some 39, .binOp .leq 3 (.tmp 37) (.tmp 38) 3),
    (none, some 40, .move (.tmp 39)),
    (some (some 40, true), some 41, .move (.tmp 0)),
    (some (some 40, true), some 42, .call ⟨(.builtin .len), #[(.tmp 41)], #[9]⟩),
    (some (some 40, true), some 43, .binOp .leq 3 (.tmp 42) (.const (.int .i64 (64))) 3),
    (none, some 44, .pick (.tmp 40) (.tmp 43) (.const (.bool false))),
    (none, some 36, .assign (.tmp 44))] env H (kont C1 none Tryz.f99 K (some [0, 1, 5, 36]) D) :=
  runL_flatE rfl (by kernel_rfl) (by kernel_rfl) (by kernel_rfl) (by kernel_rfl)
theorem R99_9 {K : List Item} {env : Env} {D : List DV} {H : Heap} : runL C1 none Tryz.f99 (.code (.region 9 r99_9 false) :: K) env D H = flatK Tryz.prog (callL C1) [(none, some 45, .move (.tmp 0)),
    (none, some 46, .move (.tmp 1)),
    (none, some 47, .call ⟨(.value (.func 113)), #[(.tmp 45), (.tmp 46)], #[9, 9]⟩),
    (none, some 4, .assign (.tmp 47))] env H (kont C1 none Tryz.f99 K (some [4]) D) :=
  runL_flatE rfl (by kernel_rfl) (by kernel_rfl) (by kernel_rfl) (by kernel_rfl)
theorem R99_10 {K : List Item} {env : Env} {D : List DV} {H : Heap} : runL C1 none Tryz.f99 (.code (.region 10 r99_10 false) :: K) env D H = flatK Tryz.prog (callL C1) [(none, some 48, .move (.tmp 1)),
    (none, some 49, .index 9 (.tmp 48) (.const (.int .i64 (0)))),
    (none, some 6, .assign (.tmp 49))] env H (kont C1 none Tryz.f99 K (some [0, 1, 5, 6]) D) :=
  runL_flatE rfl (by kernel_rfl) (by kernel_rfl) (by kernel_rfl) (by kernel_rfl)
theorem R99_11 {K : List Item} {env : Env} {D : List DV} {H : Heap} : runL C1 none Tryz.f99 (.code (.region 11 r99_11 false) :: K) env D H = flatK Tryz.prog (callL C1) [(none, some 50, .move (.tmp 1)),
    (none, some 51, .index 9 (.tmp 50) (.const (.int .i64 (1)))),
    (none, some 7, .assign (.tmp 51))] env H (kont C1 none Tryz.f99 K (some [0, 1, 5, 6, 7]) D) :=
  runL_flatE rfl (by kernel_rfl) (by kernel_rfl) (by kernel_rfl) (by kernel_rfl)
theorem R99_12 {K : List Item} {env : Env} {D : List DV} {H : Heap} : runL C1 none Tryz.f99 (.code (.region 12 r99_12 false) :: K) env D H = flatK Tryz.prog (callL C1) [(none, some 8, .assign (.const (.int .i64 (0))))] env H (kont C1 none Tryz.f99 K (some [0, 1, 5, 6, 7, 8]) D) :=
  runL_flatE rfl (by kernel_rfl) (by kernel_rfl) (by kernel_rfl) (by kernel_rfl)
theorem R99_13 {K : List Item} {env : Env} {D : List DV} {H : Heap} : runL C1 none Tryz.f99 (.code (.region 13 r99_13 false) :: K) env D H = flatK Tryz.prog (callL C1) [(none, some 52, .move (.tmp 0)),
    (none, some 53, .call ⟨(.builtin .len), #[(.tmp 52)], #[9]⟩),
    (none, some 54, .move (.tmp 5)),
    (none, some 55, .binOp .sub 3 (.tmp 53) (.tmp 54) 3),
    (none, some 56, .binOp .add 3 (.tmp 55) (.const (.int .i64 (1))) 3),
    (none, some 9, .assign (.tmp 56))] env H (kont C1 none Tryz.f99 K (some [0, 1, 5, 6, 7, 8, 9]) D) :=
  runL_flatE rfl (by kernel_rfl) (by kernel_rfl) (by kernel_rfl) (by kernel_rfl)
theorem R99_14 {K : List Item} {env : Env} {D : List DV} {H : Heap} : runL C1 none Tryz.f99 (.code (.region 14 r99_14 false) :: K) env D H = flatK Tryz.prog (callL C1) [(none, some 10, .assign (.const (.int .i64 (0))))] env H (kont C1 none Tryz.f99 K (some [0, 1, 5, 6, 7, 8, 9, 10]) D) :=
  runL_flatE rfl (by kernel_rfl) (by kernel_rfl) (by kernel_rfl) (by kernel_rfl)
theorem R99_15 {K : List Item} {env : Env} {D : List DV} {H : Heap} : runL C1 none Tryz.f99 (.code (.region 15 r99_15 false) :: K) env D H = flatK Tryz.prog (callL C1) [(none, some 57, .move (.tmp 8)),
    (none, some 58, .move (.tmp 9)),
    (none, some 59, .binOp .lss 3 (.tmp 57) (.tmp 58) 3)] env H (kont C1 none Tryz.f99 K (some [0, 1, 5, 6, 7, 8, 9, 10, 59]) D) :=
  runL_flatE rfl (by kernel_rfl) (by kernel_rfl) (by kernel_rfl) (by kernel_rfl)
theorem R99_16 {K : List Item} {env : Env} {D : List DV} {H : Heap} : runL C1 none Tryz.f99 (.code (.region 16 r99_16 false) :: K) env D H = flatK Tryz.prog (callL C1) [(none, some 60, .move (.tmp 0)),
    (none, some 61, .move (.tmp 8)),
    (none, some 62, .index 9 (.tmp 60) (.tmp 61)),
    (none, some 63, .move (.tmp 6)),
    (none, some 64, .binOp .neq 5 (.tmp 62) (.tmp 63) 5)] env H (kont C1 none Tryz.f99 K (some [0, 1, 5, 6, 7, 8, 9, 10, 64]) D) :=
  runL_flatE rfl (by kernel_rfl) (by kernel_rfl) (by kernel_rfl) (by kernel_rfl)
theorem R99_17 {K : List Item} {env : Env} {D : List DV} {H : Heap} : runL C1 none Tryz.f99 (.code (.region 17 r99_17 false) :: K) env D H = flatK Tryz.prog (callL C1) [(none, some 65, .move (.tmp 0)),
    (none, some 66, .move (.tmp 8)),
    (none, some 67, .binOp .add 3 (.tmp 66) (.const (.int .i64 (1))) 3),
    (none, some 68, .move (.tmp 9)),
    (none, some 69, .slice 9 (.tmp 65) (some (.tmp 67)) (some (.tmp 68)) none),
    (none, some 70, .move (.tmp 6)),
    (none, some 71, .call ⟨(.value (.func 112)), #[(.tmp 69), (.tmp 70)], #[9, 5]⟩),
    (none, some 11, .assign (.tmp 71))] env H (kont C1 none Tryz.f99 K (some [0, 1, 5, 6, 7, 8, 9, 10, 11]) D) :=
  runL_flatE rfl (by kernel_rfl) (by kernel_rfl) (by kernel_rfl) (by kernel_rfl)
theorem R99_18 {K : List Item} {env : Env} {D : List DV} {H : Heap} : runL C1 none Tryz.f99 (.code (.region 18 r99_18 false) :: K) env D H = flatK Tryz.prog (callL C1) [(none, some 72, .move (.tmp 11)),
    (none, some 73, .binOp .lss 3 (.tmp 72) (.const (.int .i64 (0))) 3)] env H (kont C1 none Tryz.f99 K (some [0, 1, 5, 6, 7, 8, 9, 10, 11, 73]) D) :=
  runL_flatE rfl (by kernel_rfl) (by kernel_rfl) (by kernel_rfl) (by kernel_rfl)
theorem R99_19 {K : List Item} {env : Env} {D : List DV} {H : Heap} : runL C1 none Tryz.f99 (.code (.region 19 r99_19 false) :: K) env D H = flatK Tryz.prog (callL C1) [(none, some 4, .assign (.const (.int .i64 (-1))))] env H (kont C1 none Tryz.f99 K (some [4]) D) :=
  runL_flatE rfl (by kernel_rfl) (by kernel_rfl) (by kernel_rfl) (by kernel_rfl)
theorem R99_20 {K : List Item} {env : Env} {D : List DV} {H : Heap} : runL C1 none Tryz.f99 (.code (.region 20 r99_20 false) :: K) env D H = flatK Tryz.prog (callL C1) [(none, some 74, .move (.tmp 8)),
    (none, some 75, .move (.tmp 11)),
    (none, some 76, .binOp .add 3 (.tmp 75) (.const (.int .i64 (1))) 3),
    (none, some 77, .binOp .add 3 (.tmp 74) (.tmp 76) 3),
    (none, some 8, .assign (.tmp 77))] env H (kont C1 none Tryz.f99 K (some [0, 1, 5, 6, 7, 8, 9, 10]) D) :=
  runL_flatE rfl (by kernel_rfl) (by kernel_rfl) (by kernel_rfl) (by kernel_rfl)
theorem R99_21 {K : List Item} {env : Env} {D : List DV} {H : Heap} : runL C1 none Tryz.f99 (.code (.region 21 r99_21 false) :: K) env D H = flatK Tryz.prog (callL C1) [(none, some 78, .move (.tmp 0)),
    (none, some 79, .move (.tmp 8)),
    (none, some 80, .binOp .add 3 (.tmp 79) (.const (.int .i64 (1))) 3),
    (none, some 81, .index 9 (.tmp 78) (.tmp 80)),
    (none, some 82, .move (.tmp 7)),
    (none, some 83, .binOp .eql 5 (.tmp 81) (.tmp 82) 5),
    (none, some 84, .move (.tmp 83)),
    (some (some 84, true), some 85, .move (.tmp 0)),
    (some (some 84, true), some 86, .move (.tmp 8)),
    (some (some 84, true), some 87, .move (.tmp 8)),
    (some (some 84, true), some 88, .move (.tmp 5)),
    (some (some 84, true), some 89, .binOp .add 3 (.tmp 87) (.tmp 88) 3),
    (some (some 84, true), some 90, .slice 9 (.tmp 85) (some (.tmp 86)) (some (.tmp 89)) none),
    (some (some 84, true), some 91, .move (.tmp 1)),
    (some (some 84, true), some 92, .binOp .eql 9 (.tmp 90) (.tmp 91) 9),
    (none, some 93, .pick (.tmp 84) (.tmp 92) (.const (.bool false)))] env H (kont C1 none Tryz.f99 K (some [0, 1, 5, 6, 7, 8, 9, 10, 93]) D) :=
  runL_flatE rfl (by kernel_rfl) (by kernel_rfl) (by kernel_rfl) (by kernel_rfl)
theorem R99_22 {K : List Item} {env : Env} {D : List DV} {H : Heap} : runL C1 none Tryz.f99 (.code (.region 22 r99_22 false) :: K) env D H = flatK Tryz.prog (callL C1) [(none, some 94, .move (.tmp 8)),
    (none, some 4, .assign (.tmp 94))] env H (kont C1 none Tryz.f99 K (some [4]) D) :=
  runL_flatE rfl (by kernel_rfl) (by kernel_rfl) (by kernel_rfl) (by kernel_rfl)
theorem R99_23 {K : List Item} {env : Env} {D : List DV} {H : Heap} : runL C1 none Tryz.f99 (.code (.region 23 r99_23 false) :: K) env D H = flatK Tryz.prog (callL C1) [(none, some 95, .move (.tmp 8)),
    (none, some 96, .binOp .add 3 (.tmp 95) (.const (.int .i64 (1))) 3),
    (none, some 8, .assign (.tmp 96))] env H (kont C1 none Tryz.f99 K (some [0, 1, 5, 6, 7, 8, 9, 10]) D) :=
  runL_flatE rfl (by kernel_rfl) (by kernel_rfl) (by kernel_rfl) (by kernel_rfl)
theorem R99_24 {K : List Item} {env : Env} {D : List DV} {H : Heap} : runL C1 none Tryz.f99 (.code (.region 24 r99_24 false) :: K) env D H = flatK Tryz.prog (callL C1) [(none, some 97, .move (.tmp 10)),
    (none, some 98, .binOp .add 3 (.tmp 97) (.const (.int .i64 (1))) 3),
    (none, some 10, .assign (.tmp 98))] env H (kont C1 none Tryz.f99 K (some [0, 1, 5, 6, 7, 8, 9, 10]) D) :=
  runL_flatE rfl (by kernel_rfl) (by kernel_rfl) (by kernel_rfl) (by kernel_rfl)
theorem R99_25 {K : List Item} {env : Env} {D : List DV} {H : Heap} : runL C1 none Tryz.f99 (.code (.region 25 r99_25 false) :: K) env D H = flatK Tryz.prog (callL C1) [(none, some 99, .move (.tmp 5)),
    (none, some 100, .load 3 (.global 3)),
    (none, some 101, .binOp .leq 3 (.tmp 99) (.tmp 100) 3),
    (none, some 102, .move (.tmp 101)),
    (some (some 102, true), some 103, .move (.tmp 10)),
    (some (some 102, true), some 104, .move (.tmp 8)),
    (some (some 102, true), some 105, .call ⟨(.value (.func 114)), #[(.tmp 104)], #[3]⟩),
    (some (some 102, true), some 106, .binOp .gtr 3 (.tmp 103) (.tmp 105) 3),
    (none, some 107, .pick (.tmp 102) (.tmp 106) (.const (.bool false)))] env H (kont C1 none Tryz.f99 K (some [0, 1, 5, 6, 7, 8, 9, 10, 107]) D) :=
  runL_flatE rfl (by kernel_rfl) (by kernel_rfl) (by kernel_rfl) (by kernel_rfl)
theorem R99_26 {K : List Item} {env : Env} {D : List DV} {H : Heap} : runL C1 none Tryz.f99 (.code (.region 26 r99_26 false) :: K) env D H = flatK Tryz.prog (callL C1) [(none, some 108, .move (.tmp 0)),
    (none, some 109, .move (.tmp 8)),
    (none, some 110, .slice 9 (.tmp 108) (some (.tmp 109)) none none),
    (none, some 111, .move (.tmp 1)),
    (none, some 112, .call ⟨(.value (.func 113)), #[(.tmp 110), (.tmp 111)], #[9, 9]⟩),
    (none, some 12, .assign (.tmp 112))] env H (kont C1 none Tryz.f99 K (some [8, 12]) D) :=
  runL_flatE rfl (by kernel_rfl) (by kernel_rfl) (by kernel_rfl) (by kernel_rfl)
theorem R99_27 {K : List Item} {env : Env} {D : List DV} {H : Heap} : runL C1 none Tryz.f99 (.code (.region 27 r99_27 false) :: K) env D H = flatK Tryz.prog (callL C1) [(none, some 113, .move (.tmp 12)),
    (none, some 114, .binOp .geq 3 (.tmp 113) (.const (.int .i64 (0))) 3)] env H (kont C1 none Tryz.f99 K (some [8, 12, 114]) D) :=
  runL_flatE rfl (by kernel_rfl) (by kernel_rfl) (by kernel_rfl) (by kernel_rfl)
theorem R99_28 {K : List Item} {env : Env} {D : List DV} {H : Heap} : runL C1 none Tryz.f99 (.code (.region 28 r99_28 false) :: K) env D H = flatK Tryz.prog (callL C1) [(none, some 115, .move (.tmp 12)),
    (none, some 116, .move (.tmp 8)),
    (none, some 117, .binOp .add 3 (.tmp 115) (.tmp 116) 3),
    (none, some 4, .assign (.tmp 117))] env H (kont C1 none Tryz.f99 K (some [4]) D) :=
  runL_flatE rfl (by kernel_rfl) (by kernel_rfl) (by kernel_rfl) (by kernel_rfl)
theorem R99_29 {K : List Item} {env : Env} {D : List DV} {H : Heap} : runL C1 none Tryz.f99 (.code (.region 29 r99_29 false) :: K) env D H = flatK Tryz.prog (callL C1) [(none, some 4, .assign (.const (.int .i64 (-1))))] env H (kont C1 none Tryz.f99 K (some [4]) D) :=
  runL_flatE rfl (by kernel_rfl) (by kernel_rfl) (by kernel_rfl) (by kernel_rfl)
theorem R99_30 {K : List Item} {env : Env} {D : List DV} {H : Heap} : runL C1 none Tryz.f99 (.code (.region 30 r99_30 false) :: K) env D H = flatK Tryz.prog (callL C1) [(none, some 118, .move (.tmp 5)),
    (none, some 119, .load 3 (.global 3)),
    (none, some 120, .binOp .gtr 3 (.tmp 118) (.tmp 119) 3),
    (none, some 121, .move (.tmp 120)),
    (some (some 121, true), some 122, .move (.tmp 10)),
    (some (some 121, true), some 123, .move (.tmp 8)),
    (some (some 121, true), some 124, .binOp .shr 3 (.tmp 123) (.const (.int .u64 (4))) 148),
    (some (some 121, true), some 125, .binOp .add 3 (.const (.int .i64 (4))) (.tmp 124) 3),
    (some (some 121, true), some 126, .binOp .geq 3 (.tmp 122) (.tmp 125) 3),
    (none, some 127, .pick (.tmp 121) (.tmp 126) (.const (.bool false))),
    (none, some 128, .move (.tmp 127)),
    (some (some 128, true), some 129, .move (.tmp 8)),
    (some (some 128, true), some 130, .move (.tmp 9)),
    (some (some 128, true), some 131, .binOp .lss 3 (.tmp 129) (.tmp 130) 3),
    (none, some 132, .pick (.tmp 128) (.tmp 131) (.const (.bool false)))] env H (kont C1 none Tryz.f99 K (some [0, 1, 5, 6, 7, 8, 9, 10, 132]) D) :=
  runL_flatE rfl (by kernel_rfl) (by kernel_rfl) (by kernel_rfl) (by kernel_rfl)
theorem R99_31 {K : List Item} {env : Env} {D : List DV} {H : Heap} : runL C1 none Tryz.f99 (.code (.region 31 r99_31 false) :: K) env D H = flatK Tryz.prog (callL C1) [(none, some 133, .move (.tmp 0)),
    (none, some 134, .move (.tmp 8)),
    (none, some 135, .slice 9 (.tmp 133) (some (.tmp 134)) none none),
    (none, some 136, .move (.tmp 1)),
    (none, some 137, .call ⟨(.value (.func 115)), #[(.tmp 135), (.tmp 136)], #[9, 9]⟩),
    (none, some 13, .assign (.tmp 137))] env H (kont C1 none Tryz.f99 K (some [8, 13]) D) :=
  runL_flatE rfl (by kernel_rfl) (by kernel_rfl) (by kernel_rfl) (by kernel_rfl)
theorem R99_32 {K : List Item} {env : Env} {D : List DV} {H : Heap} : runL C1 none Tryz.f99 (.code (.region 32 r99_32 false) :: K) env D H = flatK Tryz.prog (callL C1) [(none, some 138, .move (.tmp 13)),
    (none, some 139, .binOp .lss 3 (.tmp 138) (.const (.int .i64 (0))) 3)] env H (kont C1 none Tryz.f99 K (some [8, 13, 139]) D) :=
  runL_flatE rfl (by kernel_rfl) (by kernel_rfl) (by kernel_rfl) (by kernel_rfl)
theorem R99_33 {K : List Item} {env : Env} {D : List DV} {H : Heap} : runL C1 none Tryz.f99 (.code (.region 33 r99_33 false) :: K) env D H = flatK Tryz.prog (callL C1) [(none, some 4, .assign (.const (.int .i64 (-1))))] env H (kont C1 none Tryz.f99 K (some [4]) D) :=
  runL_flatE rfl (by kernel_rfl) (by kernel_rfl) (by kernel_rfl) (by kernel_rfl)
theorem R99_34 {K : List Item} {env : Env} {D : List DV} {H : Heap} : runL C1 none Tryz.f99 (.code (.region 34 r99_34 false) :: K) env D H = flatK Tryz.prog (callL C1) [(none, some 140, .move (.tmp 8)),
    (none, some 141, .move (.tmp 13)),
    (none, some 142, .binOp .add 3 (.tmp 140) (.tmp 141) 3),
    (none, some 4, .assign (.tmp 142))] env H (kont C1 none Tryz.f99 K (some [4]) D) :=
  runL_flatE rfl (by kernel_rfl) (by kernel_rfl) (by kernel_rfl) (by kernel_rfl)
theorem R99_35 {K : List Item} {env : Env} {D : List DV} {H : Heap} : runL C1 none Tryz.f99 (.code (.region 35 r99_35 false) :: K) env D H = flatK Tryz.prog (callL C1) [(none, some 4, .assign (.const (.int .i64 (-1))))] env H (kont C1 none Tryz.f99 K (some [4]) D) :=
  runL_flatE rfl (by kernel_rfl) (by kernel_rfl) (by kernel_rfl) (by kernel_rfl)
theorem FIN99 {env : Env} {H : Heap} : finishV Tryz.prog Tryz.f99 env H = some ((env 4), H) := by kernel_rfl
theorem LEN9 {s : ByteArray} {H : Heap} : builtinV Tryz.prog .len #[9] [.str s] H = some (.int .i64 s.size, H) := len_str rfl Tryz.underlying9
theorem IX9 {s : ByteArray} {k : IntKind} {i : Int} (h0 : 0 ≤ i) (h1 : i < s.size) : indexV Tryz.prog 9 (.str s) (.int k i) = some (.int .u8 (ByteArray.at s i)) := idx_str Tryz.underlying9 h0 h1
theorem LDP3 {i off : Nat} {H : Heap} : loadK Tryz.prog 3 (.ptr i off) H = boxGet H[i]? off := loadK_p1 Tryz.underlying3 (by kernel_rfl)
theorem LDE3 {i idx off : Nat} {H : Heap} : loadK Tryz.prog 3 (.eptr i idx off) H = eltGet (rowOb H[i]?) idx off := loadK_e1 Tryz.underlying3 (by kernel_rfl)
theorem LDR3 {v : AV} {H : Heap} (hn : v.one = true) : loadK Tryz.prog 3 (.raddr v) H = some v := loadK_rone Tryz.underlying3 (by kernel_rfl) hn
theorem SLB9 {s : ByteArray} {k k' : IntKind} {l h : Int} {H : Heap} (h0 : 0 ≤ l) (h1 : l ≤ h) (h2 : h ≤ s.size) : sliceV Tryz.prog 9 (.str s) (some (.int k l)) (some (.int k' h)) none H = some (.str (s.extract l.toNat h.toNat)) := sl_both Tryz.underlying9 h0 h1 h2
theorem SLL9 {s : ByteArray} {k : IntKind} {l : Int} {H : Heap} (h0 : 0 ≤ l) (h1 : l ≤ s.size) : sliceV Tryz.prog 9 (.str s) (some (.int k l)) none none H = some (.str (s.extract l.toNat s.size)) := sl_lo Tryz.underlying9 h0 h1
theorem KL99_0 : keepLOf Tryz.f99 0 = some [0, 1] := by kernel_rfl
theorem KL99_1 : keepLOf Tryz.f99 1 = some [0, 1] := by kernel_rfl
theorem KL99_2 : keepLOf Tryz.f99 2 = some [0, 1, 5] := by kernel_rfl
theorem KL99_3 : keepLOf Tryz.f99 3 = some [] := by kernel_rfl
theorem KL99_4 : keepLOf Tryz.f99 4 = some [0, 1, 5] := by kernel_rfl
theorem KL99_5 : keepLOf Tryz.f99 5 = some [0, 1] := by kernel_rfl
theorem KL99_6 : keepLOf Tryz.f99 6 = some [0, 1, 5] := by kernel_rfl
theorem KL99_7 : keepLOf Tryz.f99 7 = some [] := by kernel_rfl
theorem KL99_8 : keepLOf Tryz.f99 8 = some [0, 1, 5] := by kernel_rfl
theorem KL99_9 : keepLOf Tryz.f99 9 = some [0, 1] := by kernel_rfl
theorem KL99_10 : keepLOf Tryz.f99 10 = some [0, 1, 5] := by kernel_rfl
theorem KL99_11 : keepLOf Tryz.f99 11 = some [0, 1, 5, 6] := by kernel_rfl
theorem KL99_12 : keepLOf Tryz.f99 12 = some [0, 1, 5, 6, 7] := by kernel_rfl
theorem KL99_13 : keepLOf Tryz.f99 13 = some [0, 1, 5, 6, 7, 8] := by kernel_rfl
theorem KL99_14 : keepLOf Tryz.f99 14 = some [0, 1, 5, 6, 7, 8, 9] := by kernel_rfl
theorem KL99_15 : keepLOf Tryz.f99 15 = some [0, 1, 5, 6, 7, 8, 9, 10] := by kernel_rfl
theorem KL99_16 : keepLOf Tryz.f99 16 = some [0, 1, 5, 6, 7, 8, 9, 10] := by kernel_rfl
theorem KL99_17 : keepLOf Tryz.f99 17 = some [0, 1, 5, 6, 7, 8, 9, 10] := by kernel_rfl
theorem KL99_18 : keepLOf Tryz.f99 18 = some [0, 1, 5, 6, 7, 8, 9, 10, 11] := by kernel_rfl
theorem KL99_19 : keepLOf Tryz.f99 19 = some [] := by kernel_rfl
theorem KL99_20 : keepLOf Tryz.f99 20 = some [0, 1, 5, 6, 7, 8, 9, 10, 11] := by kernel_rfl
theorem KL99_21 : keepLOf Tryz.f99 21 = some [0, 1, 5, 6, 7, 8, 9, 10] := by kernel_rfl
theorem KL99_22 : keepLOf Tryz.f99 22 = some [8] := by kernel_rfl
theorem KL99_23 : keepLOf Tryz.f99 23 = some [0, 1, 5, 6, 7, 8, 9, 10] := by kernel_rfl
theorem KL99_24 : keepLOf Tryz.f99 24 = some [0, 1, 5, 6, 7, 8, 9, 10] := by kernel_rfl
theorem KL99_25 : keepLOf Tryz.f99 25 = some [0, 1, 5, 6, 7, 8, 9, 10] := by kernel_rfl
theorem KL99_26 : keepLOf Tryz.f99 26 = some [0, 1, 8] := by kernel_rfl
theorem KL99_27 : keepLOf Tryz.f99 27 = some [8, 12] := by kernel_rfl
theorem KL99_28 : keepLOf Tryz.f99 28 = some [8, 12] := by kernel_rfl
theorem KL99_29 : keepLOf Tryz.f99 29 = some [] := by kernel_rfl
theorem KL99_30 : keepLOf Tryz.f99 30 = some [0, 1, 5, 6, 7, 8, 9, 10] := by kernel_rfl
theorem KL99_31 : keepLOf Tryz.f99 31 = some [0, 1, 8] := by kernel_rfl
theorem KL99_32 : keepLOf Tryz.f99 32 = some [8, 13] := by kernel_rfl
theorem KL99_33 : keepLOf Tryz.f99 33 = some [] := by kernel_rfl
theorem KL99_34 : keepLOf Tryz.f99 34 = some [8, 13] := by kernel_rfl
theorem KL99_35 : keepLOf Tryz.f99 35 = some [] := by kernel_rfl
theorem FRC99_0 : firstReg c99_0 = some 21 := by kernel_rfl
theorem FRC99_2 : firstReg c99_2 = some 35 := by kernel_rfl
theorem FR99_1 : firstReg l99_1 = some 15 := by kernel_rfl
theorem LH99_1 {K : List Item} {env : Env} {D : List DV} {H : Heap} : runL C1 none Tryz.f99 (.code (.loop l99_1) :: K) env D H = runL C1 none Tryz.f99 (.inLoop l99_1 :: K) (E (keepE env [0, 1, 5, 6, 7, 8, 9, 10])) D H := runL_loopE (l := [0, 1, 5, 6, 7, 8, 9, 10]) (by kernel_rfl)
theorem LI99_1 {K : List Item} {env : Env} {D : List DV} {H : Heap} : runL C1 none Tryz.f99 (.inLoop l99_1 :: K) env D H = runL C1 none Tryz.f99 (.code (.seq (.seq (.region 15 r99_15 false) (.cond (.tmp 59) .skip (.exit 1))) (.block 2 (.seq (.seq (.region 16 r99_16 false) (.cond (.tmp 64) (.seq (.region 17 r99_17 false) (.seq (.seq (.region 18 r99_18 false) (.cond (.tmp 73) (.seq (.region 19 r99_19 false) .ret) .skip)) (.region 20 r99_20 false))) .skip)) c99_0))) :: .inLoop l99_1 :: K) (E (keepE env [0, 1, 5, 6, 7, 8, 9, 10])) D H := runL_inLoopE (l := [0, 1, 5, 6, 7, 8, 9, 10]) (by kernel_rfl)
-- 112 internal/stringslite.IndexByte
noncomputable def r112_0 : Array Oper := regionOf Tryz.f112.body 0
noncomputable def r112_1 : Array Oper := regionOf Tryz.f112.body 1
noncomputable def b112 : Code := (.seq (.region 0 r112_0 false) (.seq (.region 1 r112_1 false) .ret))
theorem f112_body : Tryz.f112.body = some b112 := by kernel_rfl
theorem R112_0 {K : List Item} {env : Env} {D : List DV} {H : Heap} : runL C1 none Tryz.f112 (.code (.region 0 r112_0 false) :: K) env D H = flatK Tryz.prog (callL C1) [(none, some 4, .assign (.const (.int .i64 (0))))] env H (kont C1 none Tryz.f112 K (some [0, 1]) D) :=
  runL_flatE rfl (by kernel_rfl) (by kernel_rfl) (by kernel_rfl) (by kernel_rfl)
theorem R112_1 {K : List Item} {env : Env} {D : List DV} {H : Heap} : runL C1 none Tryz.f112 (.code (.region 1 r112_1 false) :: K) env D H = flatK Tryz.prog (callL C1) [(none, some 5, .move (.tmp 0)),
    (none, some 6, .move (.tmp 1)),
    (none, some 7, .call ⟨(.value (.func 123)), #[(.tmp 5), (.tmp 6)], #[9, 5]⟩),
    (none, some 4, .assign (.tmp 7))] env H (kont C1 none Tryz.f112 K (some [4]) D) :=
  runL_flatE rfl (by kernel_rfl) (by kernel_rfl) (by kernel_rfl) (by kernel_rfl)
theorem FIN112 {env : Env} {H : Heap} : finishV Tryz.prog Tryz.f112 env H = some ((env 4), H) := by kernel_rfl
theorem KL112_0 : keepLOf Tryz.f112 0 = some [0, 1] := by kernel_rfl
theorem KL112_1 : keepLOf Tryz.f112 1 = some [0, 1] := by kernel_rfl
-- 78 strings.Cut
noncomputable def r78_0 : Array Oper := regionOf Tryz.f78.body 0
noncomputable def r78_1 : Array Oper := regionOf Tryz.f78.body 1
noncomputable def b78 : Code := (.seq (.region 0 r78_0 false) (.seq (.region 1 r78_1 false) .ret))
theorem f78_body : Tryz.f78.body = some b78 := by kernel_rfl
theorem R78_0 {K : List Item} {env : Env} {D : List DV} {H : Heap} : runL C1 none Tryz.f78 (.code (.region 0 r78_0 false) :: K) env D H = flatK Tryz.prog (callL C1) [(none, some 4, .assign (.const (.string ⟨#[]⟩))),
    (none, some 5, .assign (.const (.string ⟨#[]⟩))),
    (none, some 6, .assign (.const (.bool false)))] env H (kont C1 none Tryz.f78 K (some [0, 1]) D) :=
  runL_flatE rfl (by kernel_rfl) (by kernel_rfl) (by kernel_rfl) (by kernel_rfl)
theorem R78_1 {K : List Item} {env : Env} {D : List DV} {H : Heap} : runL C1 none Tryz.f78 (.code (.region 1 r78_1 false) :: K) env D H = flatK Tryz.prog (callL C1) [(none, some 7, .move (.tmp 0)),
    (none, some 8, .move (.tmp 1)),
    (none, some 9, .call ⟨(.value (.func 100)), #[(.tmp 7), (.tmp 8)], #[9, 9]⟩),
    (none, some 10, .extract (.tmp 9) 0),
    (none, some 11, .extract (.tmp 9) 1),
    (none, some 12, .extract (.tmp 9) 2),
    (none, some 4, .assign (.tmp 10)),
    (none, some 5, .assign (.tmp 11)),
    (none, some 6, .assign (.tmp 12))] env H (kont C1 none Tryz.f78 K (some [4, 5, 6]) D) :=
  runL_flatE rfl (by kernel_rfl) (by kernel_rfl) (by kernel_rfl) (by kernel_rfl)
theorem FIN78 {env : Env} {H : Heap} : finishV Tryz.prog Tryz.f78 env H = some ((.tup [env 4, env 5, env 6]), H) := by kernel_rfl
theorem KL78_0 : keepLOf Tryz.f78 0 = some [0, 1] := by kernel_rfl
theorem KL78_1 : keepLOf Tryz.f78 1 = some [0, 1] := by kernel_rfl
-- 100 internal/stringslite.Cut
noncomputable def r100_0 : Array Oper := regionOf Tryz.f100.body 0
noncomputable def r100_1 : Array Oper := regionOf Tryz.f100.body 1
noncomputable def r100_2 : Array Oper := regionOf Tryz.f100.body 2
noncomputable def r100_3 : Array Oper := regionOf Tryz.f100.body 3
noncomputable def r100_4 : Array Oper := regionOf Tryz.f100.body 4
noncomputable def b100 : Code := (.seq (.region 0 r100_0 false) (.seq (.seq (.region 1 r100_1 false) (.seq (.region 2 r100_2 false) (.cond (.tmp 12) (.seq (.region 3 r100_3 true) .ret) .skip))) (.seq (.region 4 r100_4 false) .ret)))
theorem f100_body : Tryz.f100.body = some b100 := by kernel_rfl
theorem R100_0 {K : List Item} {env : Env} {D : List DV} {H : Heap} : runL C1 none Tryz.f100 (.code (.region 0 r100_0 false) :: K) env D H = flatK Tryz.prog (callL C1) [(none, some 4, .assign (.const (.string ⟨#[]⟩))),
    (none, some 5, .assign (.const (.string ⟨#[]⟩))),
    (none, some 6, .assign (.const (.bool false)))] env H (kont C1 none Tryz.f100 K (some [0, 1]) D) :=
  runL_flatE rfl (by kernel_rfl) (by kernel_rfl) (by kernel_rfl) (by kernel_rfl)
theorem R100_1 {K : List Item} {env : Env} {D : List DV} {H : Heap} : runL C1 none Tryz.f100 (.code (.region 1 r100_1 false) :: K) env D H = flatK Tryz.prog (callL C1) [(none, some 8, .move (.tmp 0)),
    (none, some 9, .move (.tmp 1)),
    (none, some 10, .call ⟨(.value (.func 99)), #[(.tmp 8), (.tmp 9)], #[9, 9]⟩),
    (none, some 7, .assign (.tmp 10))] env H (kont C1 none Tryz.f100 K (some [0, 1, 7]) D) :=
  runL_flatE rfl (by kernel_rfl) (by kernel_rfl) (by kernel_rfl) (by kernel_rfl)
theorem R100_2 {K : List Item} {env : Env} {D : List DV} {H : Heap} : runL C1 none Tryz.f100 (.code (.region 2 r100_2 false) :: K) env D H = flatK Tryz.prog (callL C1) [(none, some 11, .move (.tmp 7)),
    (none, some 12, .binOp .geq 3 (.tmp 11) (.const (.int .i64 (0))) 3)] env H (kont C1 none Tryz.f100 K (some [0, 1, 7, 12]) D) :=
  runL_flatE rfl (by kernel_rfl) (by kernel_rfl) (by kernel_rfl) (by kernel_rfl)
theorem R100_3 {K : List Item} {env : Env} {D : List DV} {H : Heap} : runL C1 none Tryz.f100 (.code (.region 3 r100_3 true) :: K) env D H = flatK Tryz.prog (callL C1) [(none, some 13, .move (.tmp 0)),
    (none, some 14, .move (.tmp 7)),
    (none, some 15, .slice 9 (.tmp 13) none (some (.tmp 14)) none),
    (none, some 16, .move (.tmp 0)),
    (none, some 17, .move (.tmp 7)),
    (none, some 18, .move (.tmp 1)),
    (none, some 19, .call ⟨(.builtin .len), #[(.tmp 18)], #[9]⟩),
    (none, some 20, .binOp .add 3 (.tmp 17) (.tmp 19) 3),
    (none, some 21, .slice 9 (.tmp 16) (some (.tmp 20)) none none),
    (none, some 4, .assign (.tmp 15)),
    (none, some 5, .assign (.tmp 21)),
    (none, some 6, .assign (.const (.bool true)))] env H (kont C1 none Tryz.f100 K (some [4, 5, 6]) D) :=
  runL_flatE rfl (by kernel_rfl) (by kernel_rfl) (by kernel_rfl) (by kernel_rfl)
theorem R100_4 {K : List Item} {env : Env} {D : List DV} {H : Heap} : runL C1 none Tryz.f100 (.code (.region 4 r100_4 false) :: K) env D H = flatK Tryz.prog (callL C1) [(none, some 22, .move (.tmp 0)),
    (none, some 4, .assign (.tmp 22)),
    (none, some 5, .assign (.const (.string ⟨#[]⟩))),
    (none, some 6, .assign (.const (.bool false)))] env H (kont C1 none Tryz.f100 K (some [4, 5, 6]) D) :=
  runL_flatE rfl (by kernel_rfl) (by kernel_rfl) (by kernel_rfl) (by kernel_rfl)
theorem FIN100 {env : Env} {H : Heap} : finishV Tryz.prog Tryz.f100 env H = some ((.tup [env 4, env 5, env 6]), H) := by kernel_rfl
theorem SLH9 {s : ByteArray} {k : IntKind} {h : Int} {H : Heap} (h0 : 0 ≤ h) (h1 : h ≤ s.size) : sliceV Tryz.prog 9 (.str s) none (some (.int k h)) none H = some (.str (s.extract 0 h.toNat)) := sl_hi Tryz.underlying9 h0 h1
theorem KL100_0 : keepLOf Tryz.f100 0 = some [0, 1] := by kernel_rfl
theorem KL100_1 : keepLOf Tryz.f100 1 = some [0, 1] := by kernel_rfl
theorem KL100_2 : keepLOf Tryz.f100 2 = some [0, 1, 7] := by kernel_rfl
theorem KL100_3 : keepLOf Tryz.f100 3 = some [0, 1, 7] := by kernel_rfl
theorem KL100_4 : keepLOf Tryz.f100 4 = some [0] := by kernel_rfl
-- 56 (raddle/file.field).cut
noncomputable def r56_0 : Array Oper := regionOf Tryz.f56.body 0
noncomputable def r56_1 : Array Oper := regionOf Tryz.f56.body 1
noncomputable def r56_2 : Array Oper := regionOf Tryz.f56.body 2
noncomputable def b56 : Code := (.seq (.region 0 r56_0 false) (.seq (.region 1 r56_1 false) (.seq (.region 2 r56_2 true) .ret)))
theorem f56_body : Tryz.f56.body = some b56 := by kernel_rfl
theorem R56_0 {K : List Item} {env : Env} {D : List DV} {H : Heap} : runL C1 none Tryz.f56 (.code (.region 0 r56_0 false) :: K) env D H = flatK Tryz.prog (callL C1) [(none, some 1, .box 83 (.tmp 0)),
    (none, some 2, .alloc 83),
    (none, some 3, .alloc 83),
    (none, some 4, .assign (.const (.bool false)))] env H (kont C1 none Tryz.f56 K (some [1, 2, 3]) D) :=
  runL_flatE rfl (by kernel_rfl) (by kernel_rfl) (by kernel_rfl) (by kernel_rfl)
theorem R56_1 {K : List Item} {env : Env} {D : List DV} {H : Heap} : runL C1 none Tryz.f56 (.code (.region 1 r56_1 false) :: K) env D H = flatK Tryz.prog (callL C1) [(none, some 8, .fieldAddr 83 (.tmp 1) 1),
    (none, some 9, .load 9 (.tmp 8)),
    (none, some 10, .call ⟨(.value (.func 78)), #[(.tmp 9), (.const (.string ⟨#[32]⟩))], #[9, 9]⟩),
    (none, some 7, .move (.tmp 10)),
    (none, some 11, .extract (.tmp 7) 0),
    (none, some 12, .extract (.tmp 7) 1),
    (none, some 13, .extract (.tmp 7) 2),
    (none, some 5, .assign (.tmp 11)),
    (none, some 6, .assign (.tmp 12)),
    (none, some 4, .assign (.tmp 13))] env H (kont C1 none Tryz.f56 K (some [1, 2, 3, 4, 5, 6]) D) :=
  runL_flatE rfl (by kernel_rfl) (by kernel_rfl) (by kernel_rfl) (by kernel_rfl)
theorem D56_2 {K : List Item} {env eF : Env} {D : List DV} {H HF : Heap} (hF : flatK Tryz.prog (callL C1) [(none, some 14, .fieldAddr 83 (.tmp 1) 0),
    (none, some 15, .load 3 (.tmp 14)),
    (none, some 16, .move (.tmp 5)),
    (none, some 17, .build 83 #[(0, (.tmp 15)), (1, (.tmp 16))]),
    (none, some 18, .fieldAddr 83 (.tmp 1) 0),
    (none, some 19, .load 3 (.tmp 18)),
    (none, some 20, .move (.tmp 5)),
    (none, some 21, .call ⟨(.builtin .len), #[(.tmp 20)], #[9]⟩),
    (none, some 22, .binOp .add 3 (.tmp 19) (.tmp 21) 3),
    (none, some 23, .binOp .add 3 (.tmp 22) (.const (.int .i64 (1))) 3),
    (none, some 24, .move (.tmp 6)),
    (none, some 25, .build 83 #[(0, (.tmp 23)), (1, (.tmp 24))]),
    (none, some 26, .move (.tmp 4)),
    (none, none, .store 83 (.tmp 2) (.tmp 17)),
    (none, none, .store 83 (.tmp 3) (.tmp 25)),
    (none, some 4, .assign (.tmp 26))] env H pairK = some (eF, HF))
    {er0 ew0 eq0 : Env} {Hr0 Ha0 Hp0 Hq0 Hb0 Hc0 : Heap} {v0 : AV} (d10 : flatK Tryz.prog (callL C1) [(none, some 14, .fieldAddr 83 (.tmp 1) 0), (none, some 15, .load 3 (.tmp 14)), (none, some 16, .move (.tmp 5)), (none, some 17, .build 83 #[(0, (.tmp 15)), (1, (.tmp 16))]), (none, some 18, .fieldAddr 83 (.tmp 1) 0)] env H pairK = some (er0, Hr0)) (d20 : flatK Tryz.prog (callL C1) [(none, some 19, .load 3 (.tmp 18))] er0 Hr0 (valK 19) = some (v0, Ha0)) (d30 : flatK Tryz.prog (callL C1) [(none, some 14, .fieldAddr 83 (.tmp 1) 0), (none, some 15, .load 3 (.tmp 14)), (none, some 16, .move (.tmp 5)), (none, some 17, .build 83 #[(0, (.tmp 15)), (1, (.tmp 16))]), (none, some 18, .fieldAddr 83 (.tmp 1) 0), (none, some 19, .load 3 (.tmp 18)), (none, some 20, .move (.tmp 5)), (none, some 21, .call ⟨(.builtin .len), #[(.tmp 20)], #[9]⟩), (none, some 22, .binOp .add 3 (.tmp 19) (.tmp 21) 3), (none, some 23, .binOp .add 3 (.tmp 22) (.const (.int .i64 (1))) 3), (none, some 24, .move (.tmp 6)), (none, some 25, .build 83 #[(0, (.tmp 23)), (1, (.tmp 24))]), (none, some 26, .move (.tmp 4))] env H pairK = some (ew0, Hp0)) (d40 : flatK Tryz.prog (callL C1) [(none, some 14, .fieldAddr 83 (.tmp 1) 0), (none, some 15, .load 3 (.tmp 14)), (none, some 16, .move (.tmp 5)), (none, some 17, .build 83 #[(0, (.tmp 15)), (1, (.tmp 16))]), (none, some 18, .fieldAddr 83 (.tmp 1) 0), (none, some 19, .load 3 (.tmp 18)), (none, some 20, .move (.tmp 5)), (none, some 21, .call ⟨(.builtin .len), #[(.tmp 20)], #[9]⟩), (none, some 22, .binOp .add 3 (.tmp 19) (.tmp 21) 3), (none, some 23, .binOp .add 3 (.tmp 22) (.const (.int .i64 (1))) 3), (none, some 24, .move (.tmp 6)), (none, some 25, .build 83 #[(0, (.tmp 23)), (1, (.tmp 24))]), (none, some 26, .move (.tmp 4)), (none, none, .store 83 (.tmp 2) (.tmp 17))] env H pairK = some (eq0, Hq0)) (d50 : flatK Tryz.prog (callL C1) [(none, some 19, .load 3 (.tmp 18))] er0 Hp0 (valK 19) = some (v0, Hb0)) (d60 : flatK Tryz.prog (callL C1) [(none, some 19, .load 3 (.tmp 18))] er0 Hq0 (valK 19) = some (v0, Hc0))
    {er1 ew1 eq1 : Env} {Hr1 Ha1 Hp1 Hq1 Hb1 Hc1 : Heap} {v1 : AV} (d11 : flatK Tryz.prog (callL C1) [(none, some 14, .fieldAddr 83 (.tmp 1) 0), (none, some 15, .load 3 (.tmp 14)), (none, some 16, .move (.tmp 5)), (none, some 17, .build 83 #[(0, (.tmp 15)), (1, (.tmp 16))]), (none, some 18, .fieldAddr 83 (.tmp 1) 0), (none, some 19, .load 3 (.tmp 18)), (none, some 20, .move (.tmp 5))] env H pairK = some (er1, Hr1)) (d21 : flatK Tryz.prog (callL C1) [(none, some 21, .call ⟨(.builtin .len), #[(.tmp 20)], #[9]⟩)] er1 Hr1 (valK 21) = some (v1, Ha1)) (d31 : flatK Tryz.prog (callL C1) [(none, some 14, .fieldAddr 83 (.tmp 1) 0), (none, some 15, .load 3 (.tmp 14)), (none, some 16, .move (.tmp 5)), (none, some 17, .build 83 #[(0, (.tmp 15)), (1, (.tmp 16))]), (none, some 18, .fieldAddr 83 (.tmp 1) 0), (none, some 19, .load 3 (.tmp 18)), (none, some 20, .move (.tmp 5)), (none, some 21, .call ⟨(.builtin .len), #[(.tmp 20)], #[9]⟩), (none, some 22, .binOp .add 3 (.tmp 19) (.tmp 21) 3), (none, some 23, .binOp .add 3 (.tmp 22) (.const (.int .i64 (1))) 3), (none, some 24, .move (.tmp 6)), (none, some 25, .build 83 #[(0, (.tmp 23)), (1, (.tmp 24))]), (none, some 26, .move (.tmp 4))] env H pairK = some (ew1, Hp1)) (d41 : flatK Tryz.prog (callL C1) [(none, some 14, .fieldAddr 83 (.tmp 1) 0), (none, some 15, .load 3 (.tmp 14)), (none, some 16, .move (.tmp 5)), (none, some 17, .build 83 #[(0, (.tmp 15)), (1, (.tmp 16))]), (none, some 18, .fieldAddr 83 (.tmp 1) 0), (none, some 19, .load 3 (.tmp 18)), (none, some 20, .move (.tmp 5)), (none, some 21, .call ⟨(.builtin .len), #[(.tmp 20)], #[9]⟩), (none, some 22, .binOp .add 3 (.tmp 19) (.tmp 21) 3), (none, some 23, .binOp .add 3 (.tmp 22) (.const (.int .i64 (1))) 3), (none, some 24, .move (.tmp 6)), (none, some 25, .build 83 #[(0, (.tmp 23)), (1, (.tmp 24))]), (none, some 26, .move (.tmp 4)), (none, none, .store 83 (.tmp 2) (.tmp 17))] env H pairK = some (eq1, Hq1)) (d51 : flatK Tryz.prog (callL C1) [(none, some 21, .call ⟨(.builtin .len), #[(.tmp 20)], #[9]⟩)] er1 Hp1 (valK 21) = some (v1, Hb1)) (d61 : flatK Tryz.prog (callL C1) [(none, some 21, .call ⟨(.builtin .len), #[(.tmp 20)], #[9]⟩)] er1 Hq1 (valK 21) = some (v1, Hc1)) :
    runL C1 none Tryz.f56 (.code (.region 2 r56_2 true) :: K) env D H = runL C1 none Tryz.f56 K (restr (some [2, 3, 4]) eF) D HF :=
  (runL_drawn (need := [(13, 5), (13, 7)]) (by kernel_rfl) (by kernel_rfl) (by kernel_rfl) (ops_of_flat (of_decide_eq_true (by kernel_rfl)) (by kernel_rfl) hF) (forall_cons (dyn_of_flat (of_decide_eq_true (by kernel_rfl)) (of_decide_eq_true (by kernel_rfl)) (by kernel_rfl) (by kernel_rfl) (by kernel_rfl) (by kernel_rfl) (by kernel_rfl) d10 d20 d30 d40 d50 d60) (forall_cons (dyn_of_flat (of_decide_eq_true (by kernel_rfl)) (of_decide_eq_true (by kernel_rfl)) (by kernel_rfl) (by kernel_rfl) (by kernel_rfl) (by kernel_rfl) (by kernel_rfl) d11 d21 d31 d41 d51 d61) (fun p hp => by cases hp)))).trans (by rw [show C1.keep Tryz.f56 2 = some [2, 3, 4] by kernel_rfl])
theorem FIN56 {env : Env} {H : Heap} : finishV Tryz.prog Tryz.f56 env H = finR (ressV Tryz.prog env H [.cell 2 83, .cell 3 83, .tmp 4]) H := by kernel_rfl
theorem LDP83 {i off : Nat} {H : Heap} : loadK Tryz.prog 83 (.ptr i off) H = boxGetA H[i]? off 2 := loadK_pA Tryz.underlying83 (by kernel_rfl) (by kernel_rfl)
theorem AL83 {β : Type} {cf : CallF} {l : FL} {env : Env} {H : Heap} {k : Env → Heap → Option β} {d : Option Nat} : flatK Tryz.prog cf ((none, d, .alloc 83) :: l) env H k = flatK Tryz.prog cf l (env.put d (.ptr H.length 0)) (H ++ [.box [.int .i64 (0), .str ⟨#[]⟩]]) k := fk_allocz (by kernel_rfl)
theorem FAP83_1 {i off : Nat} : fieldAddrV Tryz.prog 83 (.ptr i off) 1 = some (.ptr i (off + 1)) := by kernel_rfl
theorem FAE83_1 {i n off : Nat} : fieldAddrV Tryz.prog 83 (.eptr i n off) 1 = some (.eptr i n (off + 1)) := by kernel_rfl
theorem FAR83_1 {cs : List AV} {v : AV} (h : cs[1]? = some v) (ho : v.one = true) : fieldAddrV Tryz.prog 83 (.raddr (.agg cs)) 1 = some (.raddr v) := far_one Tryz.underlying83 rfl rfl (by kernel_rfl) Tryz.underlying9 (by kernel_rfl) h ho
theorem LDP9 {i off : Nat} {H : Heap} : loadK Tryz.prog 9 (.ptr i off) H = boxGet H[i]? off := loadK_p1 Tryz.underlying9 (by kernel_rfl)
theorem LDE9 {i idx off : Nat} {H : Heap} : loadK Tryz.prog 9 (.eptr i idx off) H = eltGet (rowOb H[i]?) idx off := loadK_e1 Tryz.underlying9 (by kernel_rfl)
theorem LDR9 {v : AV} {H : Heap} (hn : v.one = true) : loadK Tryz.prog 9 (.raddr v) H = some v := loadK_rone Tryz.underlying9 (by kernel_rfl) hn
theorem FAP83_0 {i off : Nat} : fieldAddrV Tryz.prog 83 (.ptr i off) 0 = some (.ptr i (off + 0)) := by kernel_rfl
theorem FAE83_0 {i n off : Nat} : fieldAddrV Tryz.prog 83 (.eptr i n off) 0 = some (.eptr i n (off + 0)) := by kernel_rfl
theorem FAR83_0 {cs : List AV} {v : AV} (h : cs[0]? = some v) (ho : v.one = true) : fieldAddrV Tryz.prog 83 (.raddr (.agg cs)) 0 = some (.raddr v) := far_one Tryz.underlying83 rfl rfl (by kernel_rfl) Tryz.underlying3 (by kernel_rfl) h ho
theorem CO3 : Tryz.prog.cellsOf 3 = 1 := by kernel_rfl
theorem CO9 : Tryz.prog.cellsOf 9 = 1 := by kernel_rfl
theorem BLD83_0_1 {v0 : AV} (h0 : v0.one = true) {v1 : AV} (h1 : v1.one = true) : buildV Tryz.prog 83 [(0, v0), (1, v1)] = some (.agg ([v0] ++ [v1])) := buildV_of (z := [.int .i64 (0), .str ⟨#[]⟩]) (by kernel_rfl) (.inl ⟨_, Tryz.underlying83, by kernel_rfl, rfl⟩) (by have c0 := cells_one h0; have c1 := cells_one h1; simp [fillCs, splice, placesP, c0, h0, c1, h1, CO3, CO9])
theorem STP83 {i off : Nat} {xs : List AV} {H : Heap} (hn : xs.length = 2) (ho : xs.all AV.one = true) : storeK Tryz.prog 83 (.ptr i off) (.agg xs) H = boxSetA H[i]? H i off xs := storeK_pA Tryz.underlying83 (by kernel_rfl) hn ho
theorem KL56_0 : keepLOf Tryz.f56 0 = some [0] := by kernel_rfl
theorem KL56_1 : keepLOf Tryz.f56 1 = some [1, 2, 3] := by kernel_rfl
theorem KL56_2 : keepLOf Tryz.f56 2 = some [1, 2, 3, 4, 5, 6] := by kernel_rfl
-- 60 raddle/file.wrong
noncomputable def r60_0 : Array Oper := regionOf Tryz.f60.body 0
noncomputable def r60_1 : Array Oper := regionOf Tryz.f60.body 1
noncomputable def b60 : Code := (.seq (.region 0 r60_0 false) (.seq (.region 1 r60_1 false) .ret))
theorem f60_body : Tryz.f60.body = some b60 := by kernel_rfl
theorem R60_0 {K : List Item} {env : Env} {D : List DV} {H : Heap} : runL C1 none Tryz.f60 (.code (.region 0 r60_0 false) :: K) env D H = flatK Tryz.prog (callL C1) [(none, some 3, .box 83 (.tmp 1)),
    (none, some 4, .assign (.const (.pointer none)))] env H (kont C1 none Tryz.f60 K (some [0, 3]) D) :=
  runL_flatE rfl (by kernel_rfl) (by kernel_rfl) (by kernel_rfl) (by kernel_rfl)
theorem R60_1 {K : List Item} {env : Env} {D : List DV} {H : Heap} : runL C1 none Tryz.f60 (.code (.region 1 r60_1 false) :: K) env D H = flatK Tryz.prog (callL C1) [(none, some 5, .move (.tmp 0)),
    (none, some 6, .fieldAddr 83 (.tmp 3) 0),
    (none, some 7, .load 3 (.tmp 6)),
    (none, some 8, .build 66 #[(0, (.tmp 5)), (1, (.tmp 7))]),
    (none, some 9, .box 66 (.tmp 8)),
    (none, some 4, .assign (.tmp 9))] env H (kont C1 none Tryz.f60 K (some [4]) D) :=
  runL_flatE rfl (by kernel_rfl) (by kernel_rfl) (by kernel_rfl) (by kernel_rfl)
theorem FIN60 {env : Env} {H : Heap} : finishV Tryz.prog Tryz.f60 env H = some ((env 4), H) := by kernel_rfl
theorem CO25 : Tryz.prog.cellsOf 25 = 1 := by kernel_rfl
theorem BLD66_0_1 {v0 : AV} (h0 : v0.one = true) {v1 : AV} (h1 : v1.one = true) : buildV Tryz.prog 66 [(0, v0), (1, v1)] = some (.agg ([v0] ++ [v1])) := buildV_of (z := [.int .i64 (0), .int .i64 (0)]) (by kernel_rfl) (.inl ⟨_, Tryz.underlying66, by kernel_rfl, rfl⟩) (by have c0 := cells_one h0; have c1 := cells_one h1; simp [fillCs, splice, placesP, c0, h0, c1, h1, CO25, CO3])
theorem KL60_0 : keepLOf Tryz.f60 0 = some [0, 1] := by kernel_rfl
theorem KL60_1 : keepLOf Tryz.f60 1 = some [0, 3] := by kernel_rfl
-- 39 strings.SplitSeq
noncomputable def r39_0 : Array Oper := regionOf Tryz.f39.body 0
noncomputable def r39_1 : Array Oper := regionOf Tryz.f39.body 1
noncomputable def b39 : Code := (.seq (.region 0 r39_0 false) (.seq (.region 1 r39_1 false) .ret))
theorem f39_body : Tryz.f39.body = some b39 := by kernel_rfl
theorem R39_0 {K : List Item} {env : Env} {D : List DV} {H : Heap} : runL C1 none Tryz.f39 (.code (.region 0 r39_0 false) :: K) env D H = flatK Tryz.prog (callL C1) [(none, some 4, .assign (.const .nilFunc))] env H (kont C1 none Tryz.f39 K (some [0, 1]) D) :=
  runL_flatE rfl (by kernel_rfl) (by kernel_rfl) (by kernel_rfl) (by kernel_rfl)
theorem R39_1 {K : List Item} {env : Env} {D : List DV} {H : Heap} : runL C1 none Tryz.f39 (.code (.region 1 r39_1 false) :: K) env D H = flatK Tryz.prog (callL C1) [(none, some 5, .move (.tmp 0)),
    (none, some 6, .move (.tmp 1)),
    (none, some 7, .call ⟨(.value (.func 55)), #[(.tmp 5), (.tmp 6), (.const (.int .i64 (0)))], #[9, 9, 3]⟩),
    (none, some 4, .assign (.tmp 7))] env H (kont C1 none Tryz.f39 K (some [4]) D) :=
  runL_flatE rfl (by kernel_rfl) (by kernel_rfl) (by kernel_rfl) (by kernel_rfl)
theorem FIN39 {env : Env} {H : Heap} : finishV Tryz.prog Tryz.f39 env H = some ((env 4), H) := by kernel_rfl
theorem KL39_0 : keepLOf Tryz.f39 0 = some [0, 1] := by kernel_rfl
theorem KL39_1 : keepLOf Tryz.f39 1 = some [0, 1] := by kernel_rfl
-- 55 strings.splitSeq
noncomputable def r55_0 : Array Oper := regionOf Tryz.f55.body 0
noncomputable def r55_1 : Array Oper := regionOf Tryz.f55.body 1
noncomputable def b55 : Code := (.seq (.region 0 r55_0 false) (.seq (.region 1 r55_1 false) .ret))
theorem f55_body : Tryz.f55.body = some b55 := by kernel_rfl
theorem R55_0 {K : List Item} {env : Env} {D : List DV} {H : Heap} : runL C1 none Tryz.f55 (.code (.region 0 r55_0 false) :: K) env D H = flatK Tryz.prog (callL C1) [(none, some 3, .box 9 (.tmp 0)),
    (none, some 4, .box 9 (.tmp 1)),
    (none, some 5, .box 3 (.tmp 2)),
    (none, some 6, .assign (.const .nilFunc))] env H (kont C1 none Tryz.f55 K (some [3, 4, 5]) D) :=
  runL_flatE rfl (by kernel_rfl) (by kernel_rfl) (by kernel_rfl) (by kernel_rfl)
theorem R55_1 {K : List Item} {env : Env} {D : List DV} {H : Heap} : runL C1 none Tryz.f55 (.code (.region 1 r55_1 false) :: K) env D H = flatK Tryz.prog (callL C1) [(none, some 7, .makeFunc (.func 75) #[] #[(.tmp 4), (.tmp 3), (.tmp 5)]),
    (none, some 6, .assign (.tmp 7))] env H (kont C1 none Tryz.f55 K (some [6]) D) :=
  runL_flatE rfl (by kernel_rfl) (by kernel_rfl) (by kernel_rfl) (by kernel_rfl)
theorem FIN55 {env : Env} {H : Heap} : finishV Tryz.prog Tryz.f55 env H = some ((env 6), H) := by kernel_rfl
theorem KL55_0 : keepLOf Tryz.f55 0 = some [0, 1, 2] := by kernel_rfl
theorem KL55_1 : keepLOf Tryz.f55 1 = some [3, 4, 5] := by kernel_rfl
-- 75 strings.splitSeq$1
noncomputable def r75_0 : Array Oper := regionOf Tryz.f75.body 0
noncomputable def r75_1 : Array Oper := regionOf Tryz.f75.body 1
noncomputable def r75_2 : Array Oper := regionOf Tryz.f75.body 2
noncomputable def r75_3 : Array Oper := regionOf Tryz.f75.body 3
noncomputable def r75_4 : Array Oper := regionOf Tryz.f75.body 4
noncomputable def r75_5 : Array Oper := regionOf Tryz.f75.body 5
noncomputable def r75_6 : Array Oper := regionOf Tryz.f75.body 6
noncomputable def r75_7 : Array Oper := regionOf Tryz.f75.body 7
noncomputable def r75_8 : Array Oper := regionOf Tryz.f75.body 8
noncomputable def r75_9 : Array Oper := regionOf Tryz.f75.body 9
noncomputable def r75_10 : Array Oper := regionOf Tryz.f75.body 10
noncomputable def l75_0 : Code := (.seq (.seq (.region 1 r75_1 false) (.cond (.tmp 14) .skip (.exit 0))) (.block 1 (.seq (.region 2 r75_2 false) (.seq (.seq (.region 3 r75_3 false) (.cond (.tmp 25) .ret .skip)) (.region 4 r75_4 false)))))
--LOOP 0 1
noncomputable def c75_1 : Code := .ret
--CONT 1 none
noncomputable def l75_2 : Code := (.block 3 (.seq (.region 5 r75_5 false) (.seq (.seq (.region 6 r75_6 false) (.cond (.tmp 33) (.exit 2) .skip)) (.seq (.region 7 r75_7 false) (.seq (.seq (.region 8 r75_8 false) (.cond (.tmp 42) .ret .skip)) (.region 9 r75_9 false))))))
--LOOP 2 5
noncomputable def c75_3 : Code := (.region 10 r75_10 false)
--CONT 3 10
noncomputable def c75_4 : Code := (.seq (.block 2 (.loop l75_2)) c75_3)
--CONT 4 5
theorem Ul75_0 {ro : Option Nat} {fn : Func} {K : List Item} {env : Env} {D : List DV} {H : Heap} : runL C1 ro fn (.code l75_0 :: K) env D H = runL C1 ro fn (.code (.seq (.seq (.region 1 r75_1 false) (.cond (.tmp 14) .skip (.exit 0))) (.block 1 (.seq (.region 2 r75_2 false) (.seq (.seq (.region 3 r75_3 false) (.cond (.tmp 25) .ret .skip)) (.region 4 r75_4 false))))) :: K) env D H := rfl
theorem Uc75_1 {ro : Option Nat} {fn : Func} {K : List Item} {env : Env} {D : List DV} {H : Heap} : runL C1 ro fn (.code c75_1 :: K) env D H = runL C1 ro fn (.code .ret :: K) env D H := rfl
theorem Ul75_2 {ro : Option Nat} {fn : Func} {K : List Item} {env : Env} {D : List DV} {H : Heap} : runL C1 ro fn (.code l75_2 :: K) env D H = runL C1 ro fn (.code (.block 3 (.seq (.region 5 r75_5 false) (.seq (.seq (.region 6 r75_6 false) (.cond (.tmp 33) (.exit 2) .skip)) (.seq (.region 7 r75_7 false) (.seq (.seq (.region 8 r75_8 false) (.cond (.tmp 42) .ret .skip)) (.region 9 r75_9 false)))))) :: K) env D H := rfl
theorem Uc75_3 {ro : Option Nat} {fn : Func} {K : List Item} {env : Env} {D : List DV} {H : Heap} : runL C1 ro fn (.code c75_3 :: K) env D H = runL C1 ro fn (.code (.region 10 r75_10 false) :: K) env D H := rfl
theorem Uc75_4 {ro : Option Nat} {fn : Func} {K : List Item} {env : Env} {D : List DV} {H : Heap} : runL C1 ro fn (.code c75_4 :: K) env D H = runL C1 ro fn (.code (.seq (.block 2 (.loop l75_2)) c75_3) :: K) env D H := rfl
noncomputable def b75 : Code := (.seq (.seq (.region 0 r75_0 false) (.cond (.tmp 11) (.seq (.block 0 (.loop l75_0)) c75_1) .skip)) c75_4)
theorem f75_body : Tryz.f75.body = some b75 := by kernel_rfl
theorem R75_0 {K : List Item} {env : Env} {D : List DV} {H : Heap} : runL C1 none Tryz.f75 (.code (.region 0 r75_0 false) :: K) env D H = flatK Tryz.prog (callL C1) [(none, some 9, .load 9 (.tmp 1)),
    (none, some 10, .call ⟨(.builtin .len), #[(.tmp 9)], #[9]⟩),
    (none, some 11, .binOp .eql 3 (.tmp 10) (.const (.int .i64 (0))) 3)] env H (kont C1 none Tryz.f75 K (some [0, 1, 2, 3, 11]) D) :=
  runL_flatE rfl (by kernel_rfl) (by kernel_rfl) (by kernel_rfl) (by kernel_rfl)
theorem R75_1 {K : List Item} {env : Env} {D : List DV} {H : Heap} : runL C1 none Tryz.f75 (.code (.region 1 r75_1 false) :: K) env D H = flatK Tryz.prog (callL C1) [(none, some 12, .load 9 (.tmp 2)),
    (none, some 13, .call ⟨(.builtin .len), #[(.tmp 12)], #[9]⟩),
    (none, some 14, .binOp .gtr 3 (.tmp 13) (.const (.int .i64 (0))) 3)] env H (kont C1 none Tryz.f75 K (some [0, 2, 14]) D) :=
  runL_flatE rfl (by kernel_rfl) (by kernel_rfl) (by kernel_rfl) (by kernel_rfl)
theorem R75_2 {K : List Item} {env : Env} {D : List DV} {H : Heap} : runL C1 none Tryz.f75 (.code (.region 2 r75_2 false) :: K) env D H = flatK Tryz.prog (callL C1) [(none, some 16, .load 9 (.tmp 2)),
    (none, some 17, .call ⟨(.value (.func 76)), #[(.tmp 16)], #[9]⟩),
    (none, some 15, .move (.tmp 17)),
    (none, some 18, .extract (.tmp 15) 0),
    (none, some 19, .extract (.tmp 15) 1),
    (none, some 5, .assign (.tmp 18)),
    (none, some 6, .assign (.tmp 19))] env H (kont C1 none Tryz.f75 K (some [0, 2, 6]) D) :=
  runL_flatE rfl (by kernel_rfl) (by kernel_rfl) (by kernel_rfl) (by kernel_rfl)
theorem R75_3 {K : List Item} {env : Env} {D : List DV} {H : Heap} : runL C1 none Tryz.f75 (.code (.region 3 r75_3 false) :: K) env D H = flatK Tryz.prog (callL C1) [(none, some 20, .move (.tmp 0)),
    (none, some 21, .load 9 (.tmp 2)),
    (none, some 22, .move (.tmp 6)),
    (none, some 23, .slice 9 (.tmp 21) none (some (.tmp 22)) none),
    (none, some 24, .call ⟨(.value (.tmp 20)), #[(.tmp 23)], #[9]⟩),
    (none, some 25, .unOp .not 4 (.tmp 24))] env H (kont C1 none Tryz.f75 K (some [0, 2, 6, 25]) D) :=
  runL_flatE rfl (by kernel_rfl) (by kernel_rfl) (by kernel_rfl) (by kernel_rfl)
theorem R75_4 {K : List Item} {env : Env} {D : List DV} {H : Heap} : runL C1 none Tryz.f75 (.code (.region 4 r75_4 false) :: K) env D H = flatK Tryz.prog (callL C1) [(none, some 26, .load 9 (.tmp 2)),
    (none, some 27, .move (.tmp 6)),
    (none, some 28, .slice 9 (.tmp 26) (some (.tmp 27)) none none),
    (none, none, .store 9 (.tmp 2) (.tmp 28))] env H (kont C1 none Tryz.f75 K (some [0, 2]) D) :=
  runL_flatE rfl (by kernel_rfl) (by kernel_rfl) (by kernel_rfl) (by kernel_rfl)
theorem R75_5 {K : List Item} {env : Env} {D : List DV} {H : Heap} : runL C1 none Tryz.f75 (.code (.region 5 r75_5 false) :: K) env D H = flatK Tryz.prog (callL C1) [(none, some 29, .load 9 (.tmp 2)),
    (none, some 30, .load 9 (.tmp 1)),
    (none, some 31, .call ⟨(.value (.func 77)), #[(.tmp 29), (.tmp 30)], #[9, 9]⟩),
    (none, some 7, .assign (.tmp 31))] env H (kont C1 none Tryz.f75 K (some [0, 1, 2, 3, 7]) D) :=
  runL_flatE rfl (by kernel_rfl) (by kernel_rfl) (by kernel_rfl) (by kernel_rfl)
theorem R75_6 {K : List Item} {env : Env} {D : List DV} {H : Heap} : runL C1 none Tryz.f75 (.code (.region 6 r75_6 false) :: K) env D H = flatK Tryz.prog (callL C1) [(none, some 32, .move (.tmp 7)),
    (none, some 33, .binOp .lss 3 (.tmp 32) (.const (.int .i64 (0))) 3)] env H (kont C1 none Tryz.f75 K (some [0, 1, 2, 3, 7, 33]) D) :=
  runL_flatE rfl (by kernel_rfl) (by kernel_rfl) (by kernel_rfl) (by kernel_rfl)
theorem R75_7 {K : List Item} {env : Env} {D : List DV} {H : Heap} : runL C1 none Tryz.f75 (.code (.region 7 r75_7 false) :: K) env D H = flatK Tryz.prog (callL C1) [(none, some 34, .load 9 (.tmp 2)),
    (none, some 35, .move (.tmp 7)),
    (none, some 36, .load 3 (.tmp 3)),
    (none, some 37, .binOp .add 3 (.tmp 35) (.tmp 36) 3),
    (none, some 38, .slice 9 (.tmp 34) none (some (.tmp 37)) none),
    (none, some 8, .assign (.tmp 38))] env H (kont C1 none Tryz.f75 K (some [0, 1, 2, 3, 7, 8]) D) :=
  runL_flatE rfl (by kernel_rfl) (by kernel_rfl) (by kernel_rfl) (by kernel_rfl)
theorem R75_8 {K : List Item} {env : Env} {D : List DV} {H : Heap} : runL C1 none Tryz.f75 (.code (.region 8 r75_8 false) :: K) env D H = flatK Tryz.prog (callL C1) [(none, some 39, .move (.tmp 0)),
    (none, some 40, .move (.tmp 8)),
    (none, some 41, .call ⟨(.value (.tmp 39)), #[(.tmp 40)], #[9]⟩),
    (none, some 42, .unOp .not 4 (.tmp 41))] env H (kont C1 none Tryz.f75 K (some [0, 1, 2, 3, 7, 42]) D) :=
  runL_flatE rfl (by kernel_rfl) (by kernel_rfl) (by kernel_rfl) (by kernel_rfl)
theorem R75_9 {K : List Item} {env : Env} {D : List DV} {H : Heap} : runL C1 none Tryz.f75 (.code (.region 9 r75_9 false) :: K) env D H = flatK Tryz.prog (callL C1) [(none, some 43, .load 9 (.tmp 2)),
    (none, some 44, .move (.tmp 7)),
    (none, some 45, .load 9 (.tmp 1)),
    (none, some 46, .call ⟨(.builtin .len), #[(.tmp 45)], #[9]⟩),
    (none, some 47, .binOp .add 3 (.tmp 44) (.tmp 46) 3),
    (none, some 48, .slice 9 (.tmp 43) (some (.tmp 47)) none none),
    (none, none, .store 9 (.tmp 2) (.tmp 48))] env H (kont C1 none Tryz.f75 K (some [0, 1, 2, 3]) D) :=
  runL_flatE rfl (by kernel_rfl) (by kernel_rfl) (by kernel_rfl) (by kernel_rfl)
theorem R75_10 {K : List Item} {env : Env} {D : List DV} {H : Heap} : runL C1 none Tryz.f75 (.code (.region 10 r75_10 false) :: K) env D H = flatK Tryz.prog (callL C1) [(none, some 49, .move (.tmp 0)),
    (none, some 50, .load 9 (.tmp 2)),
    (none, some 51, .call ⟨(.value (.tmp 49)), #[(.tmp 50)], #[9]⟩)] env H (kont C1 none Tryz.f75 K (some []) D) :=
  runL_flatE rfl (by kernel_rfl) (by kernel_rfl) (by kernel_rfl) (by kernel_rfl)
theorem FIN75 {env : Env} {H : Heap} : finishV Tryz.prog Tryz.f75 env H = some ((.tup []), H) := by kernel_rfl
theorem STP9 {i off : Nat} {v : AV} {H : Heap} (ho : v.one = true) : storeK Tryz.prog 9 (.ptr i off) v H = boxSet H[i]? H i off v := storeK_p1 Tryz.underlying9 (by kernel_rfl) ho
theorem KL75_0 : keepLOf Tryz.f75 0 = some [0, 1, 2, 3] := by kernel_rfl
theorem KL75_1 : keepLOf Tryz.f75 1 = some [0, 2] := by kernel_rfl
theorem KL75_2 : keepLOf Tryz.f75 2 = some [0, 2] := by kernel_rfl
theorem KL75_3 : keepLOf Tryz.f75 3 = some [0, 2, 6] := by kernel_rfl
theorem KL75_4 : keepLOf Tryz.f75 4 = some [0, 2, 6] := by kernel_rfl
theorem KL75_5 : keepLOf Tryz.f75 5 = some [0, 1, 2, 3] := by kernel_rfl
theorem KL75_6 : keepLOf Tryz.f75 6 = some [0, 1, 2, 3, 7] := by kernel_rfl
theorem KL75_7 : keepLOf Tryz.f75 7 = some [0, 1, 2, 3, 7] := by kernel_rfl
theorem KL75_8 : keepLOf Tryz.f75 8 = some [0, 1, 2, 3, 7, 8] := by kernel_rfl
theorem KL75_9 : keepLOf Tryz.f75 9 = some [0, 1, 2, 3, 7] := by kernel_rfl
theorem KL75_10 : keepLOf Tryz.f75 10 = some [0, 2] := by kernel_rfl
theorem FRC75_1 : firstReg c75_1 = none := by kernel_rfl
theorem FRC75_3 : firstReg c75_3 = some 10 := by kernel_rfl
theorem FRC75_4 : firstReg c75_4 = some 5 := by kernel_rfl
theorem FR75_0 : firstReg l75_0 = some 1 := by kernel_rfl
theorem LH75_0 {K : List Item} {env : Env} {D : List DV} {H : Heap} : runL C1 none Tryz.f75 (.code (.loop l75_0) :: K) env D H = runL C1 none Tryz.f75 (.inLoop l75_0 :: K) (E (keepE env [0, 2])) D H := runL_loopE (l := [0, 2]) (by kernel_rfl)
theorem LI75_0 {K : List Item} {env : Env} {D : List DV} {H : Heap} : runL C1 none Tryz.f75 (.inLoop l75_0 :: K) env D H = runL C1 none Tryz.f75 (.code (.seq (.seq (.region 1 r75_1 false) (.cond (.tmp 14) .skip (.exit 0))) (.block 1 (.seq (.region 2 r75_2 false) (.seq (.seq (.region 3 r75_3 false) (.cond (.tmp 25) .ret .skip)) (.region 4 r75_4 false))))) :: .inLoop l75_0 :: K) (E (keepE env [0, 2])) D H := runL_inLoopE (l := [0, 2]) (by kernel_rfl)
theorem FR75_2 : firstReg l75_2 = some 5 := by kernel_rfl
theorem LH75_2 {K : List Item} {env : Env} {D : List DV} {H : Heap} : runL C1 none Tryz.f75 (.code (.loop l75_2) :: K) env D H = runL C1 none Tryz.f75 (.inLoop l75_2 :: K) (E (keepE env [0, 1, 2, 3])) D H := runL_loopE (l := [0, 1, 2, 3]) (by kernel_rfl)
theorem LI75_2 {K : List Item} {env : Env} {D : List DV} {H : Heap} : runL C1 none Tryz.f75 (.inLoop l75_2 :: K) env D H = runL C1 none Tryz.f75 (.code (.block 3 (.seq (.region 5 r75_5 false) (.seq (.seq (.region 6 r75_6 false) (.cond (.tmp 33) (.exit 2) .skip)) (.seq (.region 7 r75_7 false) (.seq (.seq (.region 8 r75_8 false) (.cond (.tmp 42) .ret .skip)) (.region 9 r75_9 false)))))) :: .inLoop l75_2 :: K) (E (keepE env [0, 1, 2, 3])) D H := runL_inLoopE (l := [0, 1, 2, 3]) (by kernel_rfl)
-- 40 (*raddle/file.parser).line
noncomputable def r40_0 : Array Oper := regionOf Tryz.f40.body 0
noncomputable def r40_1 : Array Oper := regionOf Tryz.f40.body 1
noncomputable def r40_2 : Array Oper := regionOf Tryz.f40.body 2
noncomputable def r40_3 : Array Oper := regionOf Tryz.f40.body 3
noncomputable def r40_4 : Array Oper := regionOf Tryz.f40.body 4
noncomputable def r40_5 : Array Oper := regionOf Tryz.f40.body 5
noncomputable def r40_6 : Array Oper := regionOf Tryz.f40.body 6
noncomputable def r40_7 : Array Oper := regionOf Tryz.f40.body 7
noncomputable def r40_8 : Array Oper := regionOf Tryz.f40.body 8
noncomputable def r40_9 : Array Oper := regionOf Tryz.f40.body 9
noncomputable def r40_10 : Array Oper := regionOf Tryz.f40.body 10
noncomputable def r40_11 : Array Oper := regionOf Tryz.f40.body 11
noncomputable def c40_0 : Code := (.seq (.region 11 r40_11 false) .ret)
--CONT 0 11
theorem Uc40_0 {ro : Option Nat} {fn : Func} {K : List Item} {env : Env} {D : List DV} {H : Heap} : runL C1 ro fn (.code c40_0 :: K) env D H = runL C1 ro fn (.code (.seq (.region 11 r40_11 false) .ret) :: K) env D H := rfl
noncomputable def b40 : Code := (.seq (.region 0 r40_0 false) (.seq (.seq (.region 1 r40_1 false) (.cond (.tmp 16) (.seq (.region 2 r40_2 false) .ret) .skip)) (.seq (.region 3 r40_3 false) (.seq (.block 0 (.seq (.region 4 r40_4 false) (.cond (.tmp 23) .skip (.seq (.region 5 r40_5 false) (.cond (.tmp 26) (.seq (.region 6 r40_6 false) .ret) (.seq (.region 7 r40_7 false) (.cond (.tmp 34) (.seq (.region 8 r40_8 false) .ret) (.seq (.region 9 r40_9 false) (.cond (.tmp 42) (.seq (.region 10 r40_10 false) .ret) .skip))))))))) c40_0))))
theorem f40_body : Tryz.f40.body = some b40 := by kernel_rfl
theorem R40_0 {K : List Item} {env : Env} {D : List DV} {H : Heap} : runL C1 none Tryz.f40 (.code (.region 0 r40_0 false) :: K) env D H = flatK Tryz.prog (callL C1) [(none, some 3, .box 83 (.tmp 1)),
    (none, some 4, .assign (.const (.pointer none)))] env H (kont C1 none Tryz.f40 K (some [0, 3]) D) :=
  runL_flatE rfl (by kernel_rfl) (by kernel_rfl) (by kernel_rfl) (by kernel_rfl)
theorem R40_1 {K : List Item} {env : Env} {D : List DV} {H : Heap} : runL C1 none Tryz.f40 (.code (.region 1 r40_1 false) :: K) env D H = flatK Tryz.prog (callL C1) [(none, some 8, .fieldAddr 83 (.tmp 3) 1),
    (none, some 9, .load 9 (.tmp 8)),
    (none, some 10, .binOp .eql 9 (.tmp 9) (.const (.string ⟨#[]⟩)) 9),
    (none, some 11, .move (.tmp 10)),
    (some (some 11, false), some 12, .fieldAddr 83 (.tmp 3) 1),
    (some (some 11, false), some 13, .load 9 (.tmp 12)),
    (some (some 11, false), some 14, .index 9 (.tmp 13) (.const (.int .i64 (0)))),
    (some (some 11, false), some 15, .binOp .eql 5 (.tmp 14) (.const (.int .u8 (35))) 5),
    (none, some 16, .pick (.tmp 11) (.const (.bool true)) (.tmp 15))] env H (kont C1 none Tryz.f40 K (some [0, 3, 16]) D) :=
  runL_flatE rfl (by kernel_rfl) (by kernel_rfl) (by kernel_rfl) (by kernel_rfl)
theorem R40_2 {K : List Item} {env : Env} {D : List DV} {H : Heap} : runL C1 none Tryz.f40 (.code (.region 2 r40_2 false) :: K) env D H = flatK Tryz.prog (callL C1) [(none, some 4, .assign (.const (.pointer none)))] env H (kont C1 none Tryz.f40 K (some [4]) D) :=
  runL_flatE rfl (by kernel_rfl) (by kernel_rfl) (by kernel_rfl) (by kernel_rfl)
theorem R40_3 {K : List Item} {env : Env} {D : List DV} {H : Heap} : runL C1 none Tryz.f40 (.code (.region 3 r40_3 false) :: K) env D H = flatK Tryz.prog (callL C1) [(none, some 18, .load 83 (.tmp 3)),
    (none, some 19, .call ⟨(.value (.func 56)), #[(.tmp 18)], #[83]⟩),
    (none, some 17, .move (.tmp 19)),
    (none, some 20, .extract (.tmp 17) 0),
    (none, some 21, .extract (.tmp 17) 1),
    (none, some 22, .extract (.tmp 17) 2),
    (none, some 5, .alloc 83),
    (none, some 6, .alloc 83),
    (none, none, .store 83 (.tmp 5) (.tmp 20)),
    (none, none, .store 83 (.tmp 6) (.tmp 21)),
    (none, some 7, .assign (.tmp 22))] env H (kont C1 none Tryz.f40 K (some [0, 3, 5, 6, 7]) D) :=
  runL_flatE rfl (by kernel_rfl) (by kernel_rfl) (by kernel_rfl) (by kernel_rfl)
theorem R40_4 {K : List Item} {env : Env} {D : List DV} {H : Heap} : runL C1 none Tryz.f40 (.code (.region 4 r40_4 false) :: K) env D H = flatK Tryz.prog (callL C1) [(none, some 24, .move (.tmp 7)),
    (none, some 25, .unOp .not 4 (.tmp 24)),
    (none, some 23, .assign (.tmp 25))] env H (kont C1 none Tryz.f40 K (some [0, 3, 5, 6, 23]) D) :=
  runL_flatE rfl (by kernel_rfl) (by kernel_rfl) (by kernel_rfl) (by kernel_rfl)
theorem R40_5 {K : List Item} {env : Env} {D : List DV} {H : Heap} : runL C1 none Tryz.f40 (.code (.region 5 r40_5 false) :: K) env D H = flatK Tryz.prog (callL C1) [(none, some 27, .fieldAddr 83 (.tmp 5) 1),
    (none, some 28, .load 9 (.tmp 27)),
    (none, some 29, .binOp .eql 9 (.tmp 28) (.const (.string ⟨#[100, 101, 102]⟩)) 9),
    (none, some 26, .assign (.tmp 29))] env H (kont C1 none Tryz.f40 K (some [0, 3, 5, 6, 26]) D) :=
  runL_flatE rfl (by kernel_rfl) (by kernel_rfl) (by kernel_rfl) (by kernel_rfl)
theorem R40_6 {K : List Item} {env : Env} {D : List DV} {H : Heap} : runL C1 none Tryz.f40 (.code (.region 6 r40_6 false) :: K) env D H = flatK Tryz.prog (callL C1) [(none, some 30, .move (.tmp 0)),
    (none, some 31, .load 83 (.tmp 3)),
    (none, some 32, .load 83 (.tmp 6)),
    (none, some 33, .call ⟨(.value (.func 57)), #[(.tmp 30), (.tmp 31), (.tmp 32)], #[60, 83, 83]⟩),
    (none, some 4, .assign (.tmp 33))] env H (kont C1 none Tryz.f40 K (some [4]) D) :=
  runL_flatE rfl (by kernel_rfl) (by kernel_rfl) (by kernel_rfl) (by kernel_rfl)
theorem R40_7 {K : List Item} {env : Env} {D : List DV} {H : Heap} : runL C1 none Tryz.f40 (.code (.region 7 r40_7 false) :: K) env D H = flatK Tryz.prog (callL C1) [(none, some 35, .fieldAddr 83 (.tmp 5) 1),
    (none, some 36, .load 9 (.tmp 35)),
    (none, some 37, .binOp .eql 9 (.tmp 36) (.const (.string ⟨#[99, 111, 110, 100]⟩)) 9),
    (none, some 34, .assign (.tmp 37))] env H (kont C1 none Tryz.f40 K (some [0, 3, 5, 6, 34]) D) :=
  runL_flatE rfl (by kernel_rfl) (by kernel_rfl) (by kernel_rfl) (by kernel_rfl)
theorem R40_8 {K : List Item} {env : Env} {D : List DV} {H : Heap} : runL C1 none Tryz.f40 (.code (.region 8 r40_8 false) :: K) env D H = flatK Tryz.prog (callL C1) [(none, some 38, .move (.tmp 0)),
    (none, some 39, .load 83 (.tmp 3)),
    (none, some 40, .load 83 (.tmp 6)),
    (none, some 41, .call ⟨(.value (.func 58)), #[(.tmp 38), (.tmp 39), (.tmp 40)], #[60, 83, 83]⟩),
    (none, some 4, .assign (.tmp 41))] env H (kont C1 none Tryz.f40 K (some [4]) D) :=
  runL_flatE rfl (by kernel_rfl) (by kernel_rfl) (by kernel_rfl) (by kernel_rfl)
theorem R40_9 {K : List Item} {env : Env} {D : List DV} {H : Heap} : runL C1 none Tryz.f40 (.code (.region 9 r40_9 false) :: K) env D H = flatK Tryz.prog (callL C1) [(none, some 43, .fieldAddr 83 (.tmp 5) 1),
    (none, some 44, .load 9 (.tmp 43)),
    (none, some 45, .binOp .eql 9 (.tmp 44) (.const (.string ⟨#[114, 117, 108, 101]⟩)) 9),
    (none, some 42, .assign (.tmp 45))] env H (kont C1 none Tryz.f40 K (some [0, 3, 6, 42]) D) :=
  runL_flatE rfl (by kernel_rfl) (by kernel_rfl) (by kernel_rfl) (by kernel_rfl)
theorem R40_10 {K : List Item} {env : Env} {D : List DV} {H : Heap} : runL C1 none Tryz.f40 (.code (.region 10 r40_10 false) :: K) env D H = flatK Tryz.prog (callL C1) [(none, some 46, .move (.tmp 0)),
    (none, some 47, .load 83 (.tmp 3)),
    (none, some 48, .load 83 (.tmp 6)),
    (none, some 49, .call ⟨(.value (.func 59)), #[(.tmp 46), (.tmp 47), (.tmp 48)], #[60, 83, 83]⟩),
    (none, some 4, .assign (.tmp 49))] env H (kont C1 none Tryz.f40 K (some [4]) D) :=
  runL_flatE rfl (by kernel_rfl) (by kernel_rfl) (by kernel_rfl) (by kernel_rfl)
theorem R40_11 {K : List Item} {env : Env} {D : List DV} {H : Heap} : runL C1 none Tryz.f40 (.code (.region 11 r40_11 false) :: K) env D H = flatK Tryz.prog (callL C1) [(none, some 50, .load 83 (.tmp 3)),
    (none, some 51, .call ⟨(.value (.func 60)), #[(.const (.int .i64 (150))), (.tmp 50)], #[25, 83]⟩),
    (none, some 4, .assign (.tmp 51))] env H (kont C1 none Tryz.f40 K (some [4]) D) :=
  runL_flatE rfl (by kernel_rfl) (by kernel_rfl) (by kernel_rfl) (by kernel_rfl)
theorem FIN40 {env : Env} {H : Heap} : finishV Tryz.prog Tryz.f40 env H = some ((env 4), H) := by kernel_rfl
theorem LDE83 {i idx off : Nat} {H : Heap} : loadK Tryz.prog 83 (.eptr i idx off) H = eltGetA (rowOb H[i]?) idx off 2 := loadK_eA Tryz.underlying83 (by kernel_rfl) (by kernel_rfl)
theorem LDR83 {cs : List AV} {H : Heap} (hn : cs.length = 2) : loadK Tryz.prog 83 (.raddr (.agg cs)) H = some (.agg cs) := loadK_ragg Tryz.underlying83 (by kernel_rfl) (by kernel_rfl) hn
theorem KL40_0 : keepLOf Tryz.f40 0 = some [0, 1] := by kernel_rfl
theorem KL40_1 : keepLOf Tryz.f40 1 = some [0, 3] := by kernel_rfl
theorem KL40_2 : keepLOf Tryz.f40 2 = some [] := by kernel_rfl
theorem KL40_3 : keepLOf Tryz.f40 3 = some [0, 3] := by kernel_rfl
theorem KL40_4 : keepLOf Tryz.f40 4 = some [0, 3, 5, 6, 7] := by kernel_rfl
theorem KL40_5 : keepLOf Tryz.f40 5 = some [0, 3, 5, 6] := by kernel_rfl
theorem KL40_6 : keepLOf Tryz.f40 6 = some [0, 3, 6] := by kernel_rfl
theorem KL40_7 : keepLOf Tryz.f40 7 = some [0, 3, 5, 6] := by kernel_rfl
theorem KL40_8 : keepLOf Tryz.f40 8 = some [0, 3, 6] := by kernel_rfl
theorem KL40_9 : keepLOf Tryz.f40 9 = some [0, 3, 5, 6] := by kernel_rfl
theorem KL40_10 : keepLOf Tryz.f40 10 = some [0, 3, 6] := by kernel_rfl
theorem KL40_11 : keepLOf Tryz.f40 11 = some [3] := by kernel_rfl
theorem FRC40_0 : firstReg c40_0 = some 11 := by kernel_rfl
-- 21 (*raddle/file.parser).all
noncomputable def r21_0 : Array Oper := regionOf Tryz.f21.body 0
noncomputable def r21_1 : Array Oper := regionOf Tryz.f21.body 1
noncomputable def r21_2 : Array Oper := regionOf Tryz.f21.body 2
noncomputable def r21_3 : Array Oper := regionOf Tryz.f21.body 3
noncomputable def r21_4 : Array Oper := regionOf Tryz.f21.body 4
noncomputable def r21_5 : Array Oper := regionOf Tryz.f21.body 5
noncomputable def r21_6 : Array Oper := regionOf Tryz.f21.body 6
noncomputable def r21_7 : Array Oper := regionOf Tryz.f21.body 7
noncomputable def r21_8 : Array Oper := regionOf Tryz.f21.body 8
noncomputable def r21_9 : Array Oper := regionOf Tryz.f21.body 9
noncomputable def r21_10 : Array Oper := regionOf Tryz.f21.body 10
noncomputable def r21_11 : Array Oper := regionOf Tryz.f21.body 11
noncomputable def r21_12 : Array Oper := regionOf Tryz.f21.body 12
noncomputable def r21_13 : Array Oper := regionOf Tryz.f21.body 13
noncomputable def r21_14 : Array Oper := regionOf Tryz.f21.body 14
noncomputable def r21_15 : Array Oper := regionOf Tryz.f21.body 15
noncomputable def a21_0 : Code := (.region 3 r21_3 false)
noncomputable def l21_0 : Code := (.block 1 (.seq (.seq (.region 4 r21_4 false) (.seq (.region 5 r21_5 false) (.cond (.tmp 21) (.seq (.region 6 r21_6 false) .ret) .skip))) (.region 7 r21_7 false)))
noncomputable def l21_1 : Code := (.seq (.region 9 r21_9 false) (.seq (.cond (.tmp 35) .skip (.exit 2)) (.seq (.block 3 (.seq (.region 10 r21_10 false) (.seq (.region 11 r21_11 true) (.seq (.region 12 r21_12 false) (.cond (.tmp 50) (.seq (.region 13 r21_13 false) .ret) .skip))))) (.region 14 r21_14 false))))
--LOOP 1 9
noncomputable def c21_2 : Code := (.seq (.region 15 r21_15 false) .ret)
--CONT 2 15
noncomputable def c21_3 : Code := (.seq (.seq (.region 8 r21_8 false) (.block 2 (.loop l21_1))) c21_2)
--CONT 3 8
theorem Ua21_0 {ro : Option Nat} {fn : Func} {K : List Item} {env : Env} {D : List DV} {H : Heap} : runL C1 ro fn (.code a21_0 :: K) env D H = runL C1 ro fn (.code (.region 3 r21_3 false) :: K) env D H := rfl
theorem Ul21_0 {ro : Option Nat} {fn : Func} {K : List Item} {env : Env} {D : List DV} {H : Heap} : runL C1 ro fn (.code l21_0 :: K) env D H = runL C1 ro fn (.code (.block 1 (.seq (.seq (.region 4 r21_4 false) (.seq (.region 5 r21_5 false) (.cond (.tmp 21) (.seq (.region 6 r21_6 false) .ret) .skip))) (.region 7 r21_7 false))) :: K) env D H := rfl
theorem Ul21_1 {ro : Option Nat} {fn : Func} {K : List Item} {env : Env} {D : List DV} {H : Heap} : runL C1 ro fn (.code l21_1 :: K) env D H = runL C1 ro fn (.code (.seq (.region 9 r21_9 false) (.seq (.cond (.tmp 35) .skip (.exit 2)) (.seq (.block 3 (.seq (.region 10 r21_10 false) (.seq (.region 11 r21_11 true) (.seq (.region 12 r21_12 false) (.cond (.tmp 50) (.seq (.region 13 r21_13 false) .ret) .skip))))) (.region 14 r21_14 false)))) :: K) env D H := rfl
theorem Uc21_2 {ro : Option Nat} {fn : Func} {K : List Item} {env : Env} {D : List DV} {H : Heap} : runL C1 ro fn (.code c21_2 :: K) env D H = runL C1 ro fn (.code (.seq (.region 15 r21_15 false) .ret) :: K) env D H := rfl
theorem Uc21_3 {ro : Option Nat} {fn : Func} {K : List Item} {env : Env} {D : List DV} {H : Heap} : runL C1 ro fn (.code c21_3 :: K) env D H = runL C1 ro fn (.code (.seq (.seq (.region 8 r21_8 false) (.block 2 (.loop l21_1))) c21_2) :: K) env D H := rfl
noncomputable def b21 : Code := (.seq (.region 0 r21_0 false) (.seq (.region 1 r21_1 false) (.seq (.seq (.region 2 r21_2 false) (.block 0 (.rangeFunc (.tmp 13) #[14] a21_0 l21_0))) c21_3)))
theorem f21_body : Tryz.f21.body = some b21 := by kernel_rfl
theorem R21_0 {K : List Item} {env : Env} {D : List DV} {H : Heap} : runL C1 none Tryz.f21 (.code (.region 0 r21_0 false) :: K) env D H = flatK Tryz.prog (callL C1) [(none, some 2, .box 60 (.tmp 0)),
    (none, some 4, .alloc 63)] env H (kont C1 none Tryz.f21 K (some [1, 2, 4]) D) :=
  runL_flatE rfl (by kernel_rfl) (by kernel_rfl) (by kernel_rfl) (by kernel_rfl)
theorem R21_1 {K : List Item} {env : Env} {D : List DV} {H : Heap} : runL C1 none Tryz.f21 (.code (.region 1 r21_1 false) :: K) env D H = flatK Tryz.prog (callL C1) [(none, some 5, .alloc 3),
    (none, none, .store 3 (.tmp 5) (.const (.int .i64 (0))))] env H (kont C1 none Tryz.f21 K (some [1, 2, 4, 5]) D) :=
  runL_flatE rfl (by kernel_rfl) (by kernel_rfl) (by kernel_rfl) (by kernel_rfl)
theorem R21_2 {K : List Item} {env : Env} {D : List DV} {H : Heap} : runL C1 none Tryz.f21 (.code (.region 2 r21_2 false) :: K) env D H = flatK Tryz.prog (callL C1) [(none, some 12, .move (.tmp 1)),
    (none, some 13, .call ⟨(.value (.func 39)), #[(.tmp 12), (.const (.string ⟨#[10]⟩))], #[9, 9]⟩)] env H (kont C1 none Tryz.f21 K (some [2, 4, 5, 13]) D) :=
  runL_flatE rfl (by kernel_rfl) (by kernel_rfl) (by kernel_rfl) (by kernel_rfl)
theorem R21_3 {i : Nat} {K : List Item} {env : Env} {D : List DV} {H : Heap} : runL C1 (some i) default (.code (.region 3 r21_3 false) :: K) env D H = flatK Tryz.prog (callL C1) [(none, some 6, .assign (.tmp 14))] env H (kont C1 (some i) default K none D) :=
  runL_flatN rfl (by kernel_rfl) (by kernel_rfl) (by kernel_rfl) (by kernel_rfl)
theorem R21_4 {i : Nat} {K : List Item} {env : Env} {D : List DV} {H : Heap} : runL C1 (some i) default (.code (.region 4 r21_4 false) :: K) env D H = flatK Tryz.prog (callL C1) [(none, some 15, .load 60 (.tmp 2)),
    (none, some 16, .load 3 (.tmp 5)),
    (none, some 17, .move (.tmp 6)),
    (none, some 18, .build 83 #[(0, (.tmp 16)), (1, (.tmp 17))]),
    (none, some 19, .call ⟨(.value (.func 40)), #[(.tmp 15), (.tmp 18)], #[60, 83]⟩),
    (none, some 7, .assign (.tmp 19))] env H (kont C1 (some i) default K none D) :=
  runL_flatN rfl (by kernel_rfl) (by kernel_rfl) (by kernel_rfl) (by kernel_rfl)
theorem R21_5 {i : Nat} {K : List Item} {env : Env} {D : List DV} {H : Heap} : runL C1 (some i) default (.code (.region 5 r21_5 false) :: K) env D H = flatK Tryz.prog (callL C1) [(none, some 20, .move (.tmp 7)),
    (none, some 21, .binOp .neq 63 (.tmp 20) (.const (.pointer none)) 63)] env H (kont C1 (some i) default K none D) :=
  runL_flatN rfl (by kernel_rfl) (by kernel_rfl) (by kernel_rfl) (by kernel_rfl)
theorem R21_6 {i : Nat} {K : List Item} {env : Env} {D : List DV} {H : Heap} : runL C1 (some i) default (.code (.region 6 r21_6 false) :: K) env D H = flatK Tryz.prog (callL C1) [(none, some 22, .move (.tmp 7)),
    (none, none, .store 63 (.tmp 4) (.tmp 22))] env H (kont C1 (some i) default K none D) :=
  runL_flatN rfl (by kernel_rfl) (by kernel_rfl) (by kernel_rfl) (by kernel_rfl)
theorem R21_7 {i : Nat} {K : List Item} {env : Env} {D : List DV} {H : Heap} : runL C1 (some i) default (.code (.region 7 r21_7 false) :: K) env D H = flatK Tryz.prog (callL C1) [(none, some 23, .load 3 (.tmp 5)),
    (none, some 24, .move (.tmp 6)),
    (none, some 25, .call ⟨(.builtin .len), #[(.tmp 24)], #[9]⟩),
    (none, some 26, .binOp .add 3 (.tmp 25) (.const (.int .i64 (1))) 3),
    (none, some 27, .binOp .add 3 (.tmp 23) (.tmp 26) 3),
    (none, none, .store 3 (.tmp 5) (.tmp 27))] env H (kont C1 (some i) default K none D) :=
  runL_flatN rfl (by kernel_rfl) (by kernel_rfl) (by kernel_rfl) (by kernel_rfl)
theorem R21_8 {K : List Item} {env : Env} {D : List DV} {H : Heap} : runL C1 none Tryz.f21 (.code (.region 8 r21_8 false) :: K) env D H = flatK Tryz.prog (callL C1) [(none, some 28, .load 60 (.tmp 2)),
    (none, some 29, .nilCheck (.tmp 28)),
    (none, some 30, .fieldAddr 62 (.tmp 29) 0),
    (none, some 31, .fieldAddr 32 (.tmp 30) 2),
    (none, some 32, .load 30 (.tmp 31)),
    (none, some 33, .call ⟨(.builtin .len), #[(.tmp 32)], #[30]⟩),
    (none, some 34, .move (.const (.int .i64 (0))))] env H (kont C1 none Tryz.f21 K (some [2, 4, 32, 33, 34]) D) :=
  runL_flatE rfl (by kernel_rfl) (by kernel_rfl) (by kernel_rfl) (by kernel_rfl)
theorem R21_9 {K : List Item} {env : Env} {D : List DV} {H : Heap} : runL C1 none Tryz.f21 (.code (.region 9 r21_9 false) :: K) env D H = flatK Tryz.prog (callL C1) [(none, some 35, .binOp .lss 3 (.tmp 34) (.tmp 33) 3)] env H (kont C1 none Tryz.f21 K (some [2, 4, 32, 33, 34, 35]) D) :=
  runL_flatE rfl (by kernel_rfl) (by kernel_rfl) (by kernel_rfl) (by kernel_rfl)
theorem R21_10 {K : List Item} {env : Env} {D : List DV} {H : Heap} : runL C1 none Tryz.f21 (.code (.region 10 r21_10 false) :: K) env D H = flatK Tryz.prog (callL C1) [(none, some 36, .indexAddr 30 (.tmp 32) (.tmp 34)),
    (none, some 37, .load 42 (.tmp 36)),
    (none, some 9, .alloc 42),
    (none, none, .store 42 (.tmp 9) (.tmp 37))] env H (kont C1 none Tryz.f21 K (some [2, 4, 9, 32, 33, 34]) D) :=
  runL_flatE rfl (by kernel_rfl) (by kernel_rfl) (by kernel_rfl) (by kernel_rfl)
theorem R21_11 {K : List Item} {env : Env} {D : List DV} {H : Heap} : runL C1 none Tryz.f21 (.code (.region 11 r21_11 true) :: K) env D H = flatK Tryz.prog (callL C1) [(none, some 39, .fieldAddr 42 (.tmp 9) 6),
    (none, some 40, .load 24 (.tmp 39)),
    (none, some 41, .load 60 (.tmp 2)),
    (none, some 42, .nilCheck (.tmp 41)),
    (none, some 43, .fieldAddr 62 (.tmp 42) 0),
    (none, some 44, .fieldAddr 32 (.tmp 43) 1),
    (none, some 45, .load 29 (.tmp 44)),
    (none, some 46, .call ⟨(.value (.func 22)), #[(.tmp 40), (.tmp 45)], #[24, 29]⟩),
    (none, some 38, .move (.tmp 46)),
    (none, some 47, .extract (.tmp 38) 0),
    (none, some 48, .extract (.tmp 38) 1),
    (none, some 10, .assign (.tmp 47)),
    (none, some 11, .assign (.tmp 48))] env H (kont C1 none Tryz.f21 K (some [2, 4, 9, 11, 32, 33, 34]) D) :=
  runL_flatE rfl (by kernel_rfl) (by kernel_rfl) (by kernel_rfl) (by kernel_rfl)
theorem R21_12 {K : List Item} {env : Env} {D : List DV} {H : Heap} : runL C1 none Tryz.f21 (.code (.region 12 r21_12 false) :: K) env D H = flatK Tryz.prog (callL C1) [(none, some 49, .move (.tmp 11)),
    (none, some 50, .binOp .neq 25 (.tmp 49) (.const (.int .i64 (0))) 25)] env H (kont C1 none Tryz.f21 K (some [2, 4, 9, 11, 32, 33, 34, 50]) D) :=
  runL_flatE rfl (by kernel_rfl) (by kernel_rfl) (by kernel_rfl) (by kernel_rfl)
theorem R21_13 {K : List Item} {env : Env} {D : List DV} {H : Heap} : runL C1 none Tryz.f21 (.code (.region 13 r21_13 false) :: K) env D H = flatK Tryz.prog (callL C1) [(none, some 51, .move (.tmp 11)),
    (none, some 52, .fieldAddr 42 (.tmp 9) 5),
    (none, some 53, .load 3 (.tmp 52)),
    (none, some 54, .build 66 #[(0, (.tmp 51)), (1, (.tmp 53))]),
    (none, some 55, .box 66 (.tmp 54)),
    (none, none, .store 63 (.tmp 4) (.tmp 55))] env H (kont C1 none Tryz.f21 K (some [4]) D) :=
  runL_flatE rfl (by kernel_rfl) (by kernel_rfl) (by kernel_rfl) (by kernel_rfl)
theorem R21_14 {K : List Item} {env : Env} {D : List DV} {H : Heap} : runL C1 none Tryz.f21 (.code (.region 14 r21_14 false) :: K) env D H = flatK Tryz.prog (callL C1) [(none, some 56, .binOp .add 3 (.tmp 34) (.const (.int .i64 (1))) 3),
    (none, some 34, .move (.tmp 56))] env H (kont C1 none Tryz.f21 K (some [2, 4, 32, 33, 34]) D) :=
  runL_flatE rfl (by kernel_rfl) (by kernel_rfl) (by kernel_rfl) (by kernel_rfl)
theorem R21_15 {K : List Item} {env : Env} {D : List DV} {H : Heap} : runL C1 none Tryz.f21 (.code (.region 15 r21_15 false) :: K) env D H = flatK Tryz.prog (callL C1) [(none, none, .store 63 (.tmp 4) (.const (.pointer none)))] env H (kont C1 none Tryz.f21 K (some [4]) D) :=
  runL_flatE rfl (by kernel_rfl) (by kernel_rfl) (by kernel_rfl) (by kernel_rfl)
theorem FIN21 {env : Env} {H : Heap} : finishV Tryz.prog Tryz.f21 env H = finR (ressV Tryz.prog env H [.cell 4 63]) H := by kernel_rfl
theorem LDP63 {i off : Nat} {H : Heap} : loadK Tryz.prog 63 (.ptr i off) H = boxGet H[i]? off := loadK_p1 Tryz.underlying63 (by kernel_rfl)
theorem AL63 {β : Type} {cf : CallF} {l : FL} {env : Env} {H : Heap} {k : Env → Heap → Option β} {d : Option Nat} : flatK Tryz.prog cf ((none, d, .alloc 63) :: l) env H k = flatK Tryz.prog cf l (env.put d (.ptr H.length 0)) (H ++ [.box [.nilp]]) k := fk_allocz (by kernel_rfl)
theorem AL3 {β : Type} {cf : CallF} {l : FL} {env : Env} {H : Heap} {k : Env → Heap → Option β} {d : Option Nat} : flatK Tryz.prog cf ((none, d, .alloc 3) :: l) env H k = flatK Tryz.prog cf l (env.put d (.ptr H.length 0)) (H ++ [.box [.int .i64 (0)]]) k := fk_allocz (by kernel_rfl)
theorem STP3 {i off : Nat} {v : AV} {H : Heap} (ho : v.one = true) : storeK Tryz.prog 3 (.ptr i off) v H = boxSet H[i]? H i off v := storeK_p1 Tryz.underlying3 (by kernel_rfl) ho
theorem LDP60 {i off : Nat} {H : Heap} : loadK Tryz.prog 60 (.ptr i off) H = boxGet H[i]? off := loadK_p1 Tryz.underlying60 (by kernel_rfl)
theorem LDE60 {i idx off : Nat} {H : Heap} : loadK Tryz.prog 60 (.eptr i idx off) H = eltGet (rowOb H[i]?) idx off := loadK_e1 Tryz.underlying60 (by kernel_rfl)
theorem LDR60 {v : AV} {H : Heap} (hn : v.one = true) : loadK Tryz.prog 60 (.raddr v) H = some v := loadK_rone Tryz.underlying60 (by kernel_rfl) hn
theorem PNE63 {i j : Nat} : binV Tryz.prog .neq 63 (.ptr i j) .nilp = some (.bool true) := ne_nilp_ptr Tryz.underlying63
theorem PNN63 : binV Tryz.prog .neq 63 .nilp .nilp = some (.bool false) := ne_nilp_nilp Tryz.underlying63
theorem STP63 {i off : Nat} {v : AV} {H : Heap} (ho : v.one = true) : storeK Tryz.prog 63 (.ptr i off) v H = boxSet H[i]? H i off v := storeK_p1 Tryz.underlying63 (by kernel_rfl) ho
theorem FAP62_0 {i off : Nat} : fieldAddrV Tryz.prog 62 (.ptr i off) 0 = some (.ptr i (off + 0)) := by kernel_rfl
theorem FAE62_0 {i n off : Nat} : fieldAddrV Tryz.prog 62 (.eptr i n off) 0 = some (.eptr i n (off + 0)) := by kernel_rfl
theorem FAR62_0 {cs : List AV} (h : 0 + 3 ≤ cs.length) : fieldAddrV Tryz.prog 62 (.raddr (.agg cs)) 0 = some (.raddr (.agg ((cs.drop 0).take 3))) := far_agg Tryz.underlying62 rfl rfl (by kernel_rfl) Tryz.underlying32 (by kernel_rfl) h (by decide)
theorem FAP32_2 {i off : Nat} : fieldAddrV Tryz.prog 32 (.ptr i off) 2 = some (.ptr i (off + 2)) := by kernel_rfl
theorem FAE32_2 {i n off : Nat} : fieldAddrV Tryz.prog 32 (.eptr i n off) 2 = some (.eptr i n (off + 2)) := by kernel_rfl
theorem FAR32_2 {cs : List AV} {v : AV} (h : cs[2]? = some v) (ho : v.one = true) : fieldAddrV Tryz.prog 32 (.raddr (.agg cs)) 2 = some (.raddr v) := far_one Tryz.underlying32 rfl rfl (by kernel_rfl) Tryz.underlying30 (by kernel_rfl) h ho
theorem LDP30 {i off : Nat} {H : Heap} : loadK Tryz.prog 30 (.ptr i off) H = boxGet H[i]? off := loadK_p1 Tryz.underlying30 (by kernel_rfl)
theorem LDE30 {i idx off : Nat} {H : Heap} : loadK Tryz.prog 30 (.eptr i idx off) H = eltGet (rowOb H[i]?) idx off := loadK_e1 Tryz.underlying30 (by kernel_rfl)
theorem LDR30 {v : AV} {H : Heap} (hn : v.one = true) : loadK Tryz.prog 30 (.raddr v) H = some v := loadK_rone Tryz.underlying30 (by kernel_rfl) hn
theorem LEN30 {s : List AV} {H : Heap} : builtinV Tryz.prog .len #[30] [.sl s] H = some (.int .i64 s.length, H) := len_sl rfl Tryz.underlying30
theorem LENN30 {H : Heap} : builtinV Tryz.prog .len #[30] [.nils] H = some (.int .i64 0, H) := len_nils rfl Tryz.underlying30
theorem LENR30 {i o n : Nat} {H : Heap} : builtinV Tryz.prog .len #[30] [.ref i o n] H = some (.int .i64 n, H) := len_ref rfl Tryz.underlying30
theorem IA30 {es : List AV} {k : IntKind} {i : Int} {H : Heap} (h0 : 0 ≤ i) : indexAddrV Tryz.prog 30 (.sl es) (.int k i) H = slAddr es[i.toNat]? 7 := ia_slA Tryz.underlying30 Tryz.underlying42 (by kernel_rfl) h0
theorem IAR30 {r o n : Nat} {k : IntKind} {i : Int} {H : Heap} (h0 : 0 ≤ i) (h1 : i < n) : indexAddrV Tryz.prog 30 (.ref r o n) (.int k i) H = refAddr (rowOb H[r]?) 7 (.eptr r (o + i.toNat) 0) := ia_refA Tryz.underlying30 Tryz.underlying42 (by kernel_rfl) h0 h1
theorem LDP42 {i off : Nat} {H : Heap} : loadK Tryz.prog 42 (.ptr i off) H = boxGetA H[i]? off 7 := loadK_pA Tryz.underlying42 (by kernel_rfl) (by kernel_rfl)
theorem LDE42 {i idx off : Nat} {H : Heap} : loadK Tryz.prog 42 (.eptr i idx off) H = eltGetA (rowOb H[i]?) idx off 7 := loadK_eA Tryz.underlying42 (by kernel_rfl) (by kernel_rfl)
theorem LDR42 {cs : List AV} {H : Heap} (hn : cs.length = 7) : loadK Tryz.prog 42 (.raddr (.agg cs)) H = some (.agg cs) := loadK_ragg Tryz.underlying42 (by kernel_rfl) (by kernel_rfl) hn
theorem AL42 {β : Type} {cf : CallF} {l : FL} {env : Env} {H : Heap} {k : Env → Heap → Option β} {d : Option Nat} : flatK Tryz.prog cf ((none, d, .alloc 42) :: l) env H k = flatK Tryz.prog cf l (env.put d (.ptr H.length 0)) (H ++ [.box [.nils, .bool false, .bool false, .str ⟨#[]⟩, .int .i64 (0), .int .i64 (0), .nils]]) k := fk_allocz (by kernel_rfl)
theorem STP42 {i off : Nat} {xs : List AV} {H : Heap} (hn : xs.length = 7) (ho : xs.all AV.one = true) : storeK Tryz.prog 42 (.ptr i off) (.agg xs) H = boxSetA H[i]? H i off xs := storeK_pA Tryz.underlying42 (by kernel_rfl) hn ho
theorem FAP42_6 {i off : Nat} : fieldAddrV Tryz.prog 42 (.ptr i off) 6 = some (.ptr i (off + 6)) := by kernel_rfl
theorem FAE42_6 {i n off : Nat} : fieldAddrV Tryz.prog 42 (.eptr i n off) 6 = some (.eptr i n (off + 6)) := by kernel_rfl
theorem FAR42_6 {cs : List AV} {v : AV} (h : cs[6]? = some v) (ho : v.one = true) : fieldAddrV Tryz.prog 42 (.raddr (.agg cs)) 6 = some (.raddr v) := far_one Tryz.underlying42 rfl rfl (by kernel_rfl) Tryz.underlying24 (by kernel_rfl) h ho
theorem LDP24 {i off : Nat} {H : Heap} : loadK Tryz.prog 24 (.ptr i off) H = boxGet H[i]? off := loadK_p1 Tryz.underlying24 (by kernel_rfl)
theorem LDE24 {i idx off : Nat} {H : Heap} : loadK Tryz.prog 24 (.eptr i idx off) H = eltGet (rowOb H[i]?) idx off := loadK_e1 Tryz.underlying24 (by kernel_rfl)
theorem LDR24 {v : AV} {H : Heap} (hn : v.one = true) : loadK Tryz.prog 24 (.raddr v) H = some v := loadK_rone Tryz.underlying24 (by kernel_rfl) hn
theorem FAP32_1 {i off : Nat} : fieldAddrV Tryz.prog 32 (.ptr i off) 1 = some (.ptr i (off + 1)) := by kernel_rfl
theorem FAE32_1 {i n off : Nat} : fieldAddrV Tryz.prog 32 (.eptr i n off) 1 = some (.eptr i n (off + 1)) := by kernel_rfl
theorem FAR32_1 {cs : List AV} {v : AV} (h : cs[1]? = some v) (ho : v.one = true) : fieldAddrV Tryz.prog 32 (.raddr (.agg cs)) 1 = some (.raddr v) := far_one Tryz.underlying32 rfl rfl (by kernel_rfl) Tryz.underlying29 (by kernel_rfl) h ho
theorem LDP29 {i off : Nat} {H : Heap} : loadK Tryz.prog 29 (.ptr i off) H = boxGet H[i]? off := loadK_p1 Tryz.underlying29 (by kernel_rfl)
theorem LDE29 {i idx off : Nat} {H : Heap} : loadK Tryz.prog 29 (.eptr i idx off) H = eltGet (rowOb H[i]?) idx off := loadK_e1 Tryz.underlying29 (by kernel_rfl)
theorem LDR29 {v : AV} {H : Heap} (hn : v.one = true) : loadK Tryz.prog 29 (.raddr v) H = some v := loadK_rone Tryz.underlying29 (by kernel_rfl) hn
theorem FAP42_5 {i off : Nat} : fieldAddrV Tryz.prog 42 (.ptr i off) 5 = some (.ptr i (off + 5)) := by kernel_rfl
theorem FAE42_5 {i n off : Nat} : fieldAddrV Tryz.prog 42 (.eptr i n off) 5 = some (.eptr i n (off + 5)) := by kernel_rfl
theorem FAR42_5 {cs : List AV} {v : AV} (h : cs[5]? = some v) (ho : v.one = true) : fieldAddrV Tryz.prog 42 (.raddr (.agg cs)) 5 = some (.raddr v) := far_one Tryz.underlying42 rfl rfl (by kernel_rfl) Tryz.underlying3 (by kernel_rfl) h ho
theorem KL21_0 : keepLOf Tryz.f21 0 = some [0, 1] := by kernel_rfl
theorem KL21_1 : keepLOf Tryz.f21 1 = some [1, 2, 4] := by kernel_rfl
theorem KL21_2 : keepLOf Tryz.f21 2 = some [1, 2, 4, 5] := by kernel_rfl
theorem KL21_8 : keepLOf Tryz.f21 8 = some [2, 4] := by kernel_rfl
theorem KL21_9 : keepLOf Tryz.f21 9 = some [2, 4, 32, 33, 34] := by kernel_rfl
theorem KL21_10 : keepLOf Tryz.f21 10 = some [2, 4, 32, 33, 34] := by kernel_rfl
theorem KL21_11 : keepLOf Tryz.f21 11 = some [2, 4, 9, 32, 33, 34] := by kernel_rfl
theorem KL21_12 : keepLOf Tryz.f21 12 = some [2, 4, 9, 11, 32, 33, 34] := by kernel_rfl
theorem KL21_13 : keepLOf Tryz.f21 13 = some [4, 9, 11] := by kernel_rfl
theorem KL21_14 : keepLOf Tryz.f21 14 = some [2, 4, 32, 33, 34] := by kernel_rfl
theorem KL21_15 : keepLOf Tryz.f21 15 = some [4] := by kernel_rfl
theorem FRC21_2 : firstReg c21_2 = some 15 := by kernel_rfl
theorem FRC21_3 : firstReg c21_3 = some 8 := by kernel_rfl
theorem FR21_1 : firstReg l21_1 = some 9 := by kernel_rfl
theorem LH21_1 {K : List Item} {env : Env} {D : List DV} {H : Heap} : runL C1 none Tryz.f21 (.code (.loop l21_1) :: K) env D H = runL C1 none Tryz.f21 (.inLoop l21_1 :: K) (E (keepE env [2, 4, 32, 33, 34])) D H := runL_loopE (l := [2, 4, 32, 33, 34]) (by kernel_rfl)
theorem LI21_1 {K : List Item} {env : Env} {D : List DV} {H : Heap} : runL C1 none Tryz.f21 (.inLoop l21_1 :: K) env D H = runL C1 none Tryz.f21 (.code (.seq (.region 9 r21_9 false) (.seq (.cond (.tmp 35) .skip (.exit 2)) (.seq (.block 3 (.seq (.region 10 r21_10 false) (.seq (.region 11 r21_11 true) (.seq (.region 12 r21_12 false) (.cond (.tmp 50) (.seq (.region 13 r21_13 false) .ret) .skip))))) (.region 14 r21_14 false)))) :: .inLoop l21_1 :: K) (E (keepE env [2, 4, 32, 33, 34])) D H := runL_inLoopE (l := [2, 4, 32, 33, 34]) (by kernel_rfl)
-- 9 raddle/file.Parse
noncomputable def r9_0 : Array Oper := regionOf Tryz.f9.body 0
noncomputable def r9_1 : Array Oper := regionOf Tryz.f9.body 1
noncomputable def r9_2 : Array Oper := regionOf Tryz.f9.body 2
noncomputable def r9_3 : Array Oper := regionOf Tryz.f9.body 3
noncomputable def r9_4 : Array Oper := regionOf Tryz.f9.body 4
noncomputable def r9_5 : Array Oper := regionOf Tryz.f9.body 5
noncomputable def r9_6 : Array Oper := regionOf Tryz.f9.body 6
noncomputable def r9_7 : Array Oper := regionOf Tryz.f9.body 7
noncomputable def b9 : Code := (.seq (.region 0 r9_0 false) (.seq (.seq (.region 1 r9_1 false) (.cond (.tmp 9) (.seq (.region 2 r9_2 false) .ret) .skip)) (.seq (.region 3 r9_3 false) (.seq (.seq (.region 4 r9_4 false) (.seq (.region 5 r9_5 false) (.cond (.tmp 19) (.seq (.region 6 r9_6 true) .ret) .skip))) (.seq (.region 7 r9_7 false) .ret)))))
theorem f9_body : Tryz.f9.body = some b9 := by kernel_rfl
theorem R9_0 {K : List Item} {env : Env} {D : List DV} {H : Heap} : runL C1 none Tryz.f9 (.code (.region 0 r9_0 false) :: K) env D H = flatK Tryz.prog (callL C1) [(none, some 2, .alloc 32),
    (none, some 3, .assign (.const (.int .i64 (0)))),
    (none, some 4, .assign (.const (.int .i64 (0))))] env H (kont C1 none Tryz.f9 K (some [0, 2]) D) :=
  runL_flatE rfl (by kernel_rfl) (by kernel_rfl) (by kernel_rfl) (by kernel_rfl)
theorem R9_1 {K : List Item} {env : Env} {D : List DV} {H : Heap} : runL C1 none Tryz.f9 (.code (.region 1 r9_1 false) :: K) env D H = flatK Tryz.prog (callL C1) [(none, some 7, .move (.tmp 0)),
    (none, some 8, .call ⟨(.builtin .len), #[(.tmp 7)], #[9]⟩),
    (none, some 9, .binOp .gtr 3 (.tmp 8) (.const (.int .i64 (4096))) 3)] env H (kont C1 none Tryz.f9 K (some [0, 2, 9]) D) :=
  runL_flatE rfl (by kernel_rfl) (by kernel_rfl) (by kernel_rfl) (by kernel_rfl)
theorem R9_2 {K : List Item} {env : Env} {D : List DV} {H : Heap} : runL C1 none Tryz.f9 (.code (.region 2 r9_2 false) :: K) env D H = flatK Tryz.prog (callL C1) [(none, some 10, .build 32 #[]),
    (none, none, .store 32 (.tmp 2) (.tmp 10)),
    (none, some 3, .assign (.const (.int .i64 (0)))),
    (none, some 4, .assign (.const (.int .i64 (3))))] env H (kont C1 none Tryz.f9 K (some [2, 3, 4]) D) :=
  runL_flatE rfl (by kernel_rfl) (by kernel_rfl) (by kernel_rfl) (by kernel_rfl)
theorem R9_3 {K : List Item} {env : Env} {D : List DV} {H : Heap} : runL C1 none Tryz.f9 (.code (.region 3 r9_3 false) :: K) env D H = flatK Tryz.prog (callL C1) [(none, some 11, .buildSlice 28 1 #[(0, (.const (.string ⟨#[115, 116, 97, 114, 116]⟩)))]),
    (none, some 12, .build 32 #[(0, (.tmp 11))]),
    (none, some 13, .build 62 #[(0, (.tmp 12))]),
    (none, some 14, .box 62 (.tmp 13)),
    (none, some 5, .assign (.tmp 14))] env H (kont C1 none Tryz.f9 K (some [0, 2, 5]) D) :=
  runL_flatE rfl (by kernel_rfl) (by kernel_rfl) (by kernel_rfl) (by kernel_rfl)
theorem R9_4 {K : List Item} {env : Env} {D : List DV} {H : Heap} : runL C1 none Tryz.f9 (.code (.region 4 r9_4 false) :: K) env D H = flatK Tryz.prog (callL C1) [(none, some 15, .move (.tmp 5)),
    (none, some 16, .move (.tmp 0)),
    (none, some 17, .call ⟨(.value (.func 21)), #[(.tmp 15), (.tmp 16)], #[60, 9]⟩),
    (none, some 6, .assign (.tmp 17))] env H (kont C1 none Tryz.f9 K (some [2, 5, 6]) D) :=
  runL_flatE rfl (by kernel_rfl) (by kernel_rfl) (by kernel_rfl) (by kernel_rfl)
theorem R9_5 {K : List Item} {env : Env} {D : List DV} {H : Heap} : runL C1 none Tryz.f9 (.code (.region 5 r9_5 false) :: K) env D H = flatK Tryz.prog (callL C1) [(none, some 18, .move (.tmp 6)),
    (none, some 19, .binOp .neq 63 (.tmp 18) (.const (.pointer none)) 63)] env H (kont C1 none Tryz.f9 K (some [2, 5, 6, 19]) D) :=
  runL_flatE rfl (by kernel_rfl) (by kernel_rfl) (by kernel_rfl) (by kernel_rfl)
theorem D9_6 {K : List Item} {env eF : Env} {D : List DV} {H HF : Heap} (hF : flatK Tryz.prog (callL C1) [(none, some 20, .build 32 #[]),
    (none, some 21, .move (.tmp 6)),
    (none, some 22, .nilCheck (.tmp 21)),
    (none, some 23, .fieldAddr 66 (.tmp 22) 1),
    (none, some 24, .load 3 (.tmp 23)),
    (none, some 25, .move (.tmp 6)),
    (none, some 26, .nilCheck (.tmp 25)),
    (none, some 27, .fieldAddr 66 (.tmp 26) 0),
    (none, some 28, .load 25 (.tmp 27)),
    (none, none, .store 32 (.tmp 2) (.tmp 20)),
    (none, some 3, .assign (.tmp 24)),
    (none, some 4, .assign (.tmp 28))] env H pairK = some (eF, HF))
    {er0 ew0 eq0 : Env} {Hr0 Ha0 Hp0 Hq0 Hb0 Hc0 : Heap} {v0 : AV} (d10 : flatK Tryz.prog (callL C1) [(none, some 20, .build 32 #[]), (none, some 21, .move (.tmp 6)), (none, some 22, .nilCheck (.tmp 21)), (none, some 23, .fieldAddr 66 (.tmp 22) 1)] env H pairK = some (er0, Hr0)) (d20 : flatK Tryz.prog (callL C1) [(none, some 24, .load 3 (.tmp 23))] er0 Hr0 (valK 24) = some (v0, Ha0)) (d30 : flatK Tryz.prog (callL C1) [(none, some 20, .build 32 #[]), (none, some 21, .move (.tmp 6)), (none, some 22, .nilCheck (.tmp 21)), (none, some 23, .fieldAddr 66 (.tmp 22) 1), (none, some 24, .load 3 (.tmp 23)), (none, some 25, .move (.tmp 6)), (none, some 26, .nilCheck (.tmp 25)), (none, some 27, .fieldAddr 66 (.tmp 26) 0), (none, some 28, .load 25 (.tmp 27))] env H pairK = some (ew0, Hp0)) (d40 : flatK Tryz.prog (callL C1) [(none, some 20, .build 32 #[]), (none, some 21, .move (.tmp 6)), (none, some 22, .nilCheck (.tmp 21)), (none, some 23, .fieldAddr 66 (.tmp 22) 1), (none, some 24, .load 3 (.tmp 23)), (none, some 25, .move (.tmp 6)), (none, some 26, .nilCheck (.tmp 25)), (none, some 27, .fieldAddr 66 (.tmp 26) 0), (none, some 28, .load 25 (.tmp 27)), (none, none, .store 32 (.tmp 2) (.tmp 20))] env H pairK = some (eq0, Hq0)) (d50 : flatK Tryz.prog (callL C1) [(none, some 24, .load 3 (.tmp 23))] er0 Hp0 (valK 24) = some (v0, Hb0)) (d60 : flatK Tryz.prog (callL C1) [(none, some 24, .load 3 (.tmp 23))] er0 Hq0 (valK 24) = some (v0, Hc0))
    {er1 ew1 eq1 : Env} {Hr1 Ha1 Hp1 Hq1 Hb1 Hc1 : Heap} {v1 : AV} (d11 : flatK Tryz.prog (callL C1) [(none, some 20, .build 32 #[]), (none, some 21, .move (.tmp 6)), (none, some 22, .nilCheck (.tmp 21)), (none, some 23, .fieldAddr 66 (.tmp 22) 1), (none, some 24, .load 3 (.tmp 23)), (none, some 25, .move (.tmp 6)), (none, some 26, .nilCheck (.tmp 25)), (none, some 27, .fieldAddr 66 (.tmp 26) 0)] env H pairK = some (er1, Hr1)) (d21 : flatK Tryz.prog (callL C1) [(none, some 28, .load 25 (.tmp 27))] er1 Hr1 (valK 28) = some (v1, Ha1)) (d31 : flatK Tryz.prog (callL C1) [(none, some 20, .build 32 #[]), (none, some 21, .move (.tmp 6)), (none, some 22, .nilCheck (.tmp 21)), (none, some 23, .fieldAddr 66 (.tmp 22) 1), (none, some 24, .load 3 (.tmp 23)), (none, some 25, .move (.tmp 6)), (none, some 26, .nilCheck (.tmp 25)), (none, some 27, .fieldAddr 66 (.tmp 26) 0), (none, some 28, .load 25 (.tmp 27))] env H pairK = some (ew1, Hp1)) (d41 : flatK Tryz.prog (callL C1) [(none, some 20, .build 32 #[]), (none, some 21, .move (.tmp 6)), (none, some 22, .nilCheck (.tmp 21)), (none, some 23, .fieldAddr 66 (.tmp 22) 1), (none, some 24, .load 3 (.tmp 23)), (none, some 25, .move (.tmp 6)), (none, some 26, .nilCheck (.tmp 25)), (none, some 27, .fieldAddr 66 (.tmp 26) 0), (none, some 28, .load 25 (.tmp 27)), (none, none, .store 32 (.tmp 2) (.tmp 20))] env H pairK = some (eq1, Hq1)) (d51 : flatK Tryz.prog (callL C1) [(none, some 28, .load 25 (.tmp 27))] er1 Hp1 (valK 28) = some (v1, Hb1)) (d61 : flatK Tryz.prog (callL C1) [(none, some 28, .load 25 (.tmp 27))] er1 Hq1 (valK 28) = some (v1, Hc1)) :
    runL C1 none Tryz.f9 (.code (.region 6 r9_6 true) :: K) env D H = runL C1 none Tryz.f9 K (restr (some [2, 3, 4]) eF) D HF :=
  (runL_drawn (need := [(9, 4), (9, 8)]) (by kernel_rfl) (by kernel_rfl) (by kernel_rfl) (ops_of_flat (of_decide_eq_true (by kernel_rfl)) (by kernel_rfl) hF) (forall_cons (dyn_of_flat (of_decide_eq_true (by kernel_rfl)) (of_decide_eq_true (by kernel_rfl)) (by kernel_rfl) (by kernel_rfl) (by kernel_rfl) (by kernel_rfl) (by kernel_rfl) d10 d20 d30 d40 d50 d60) (forall_cons (dyn_of_flat (of_decide_eq_true (by kernel_rfl)) (of_decide_eq_true (by kernel_rfl)) (by kernel_rfl) (by kernel_rfl) (by kernel_rfl) (by kernel_rfl) (by kernel_rfl) d11 d21 d31 d41 d51 d61) (fun p hp => by cases hp)))).trans (by rw [show C1.keep Tryz.f9 6 = some [2, 3, 4] by kernel_rfl])
theorem R9_7 {K : List Item} {env : Env} {D : List DV} {H : Heap} : runL C1 none Tryz.f9 (.code (.region 7 r9_7 false) :: K) env D H = flatK Tryz.prog (callL C1) [(none, some 29, .move (.tmp 5)),
    (none, some 30, .nilCheck (.tmp 29)),
    (none, some 31, .fieldAddr 62 (.tmp 30) 0),
    (none, some 32, .load 32 (.tmp 31)),
    (none, none, .store 32 (.tmp 2) (.tmp 32)),
    (none, some 3, .assign (.const (.int .i64 (0)))),
    (none, some 4, .assign (.const (.int .i64 (0))))] env H (kont C1 none Tryz.f9 K (some [2, 3, 4]) D) :=
  runL_flatE rfl (by kernel_rfl) (by kernel_rfl) (by kernel_rfl) (by kernel_rfl)
theorem FIN9 {env : Env} {H : Heap} : finishV Tryz.prog Tryz.f9 env H = finR (ressV Tryz.prog env H [.cell 2 32, .tmp 3, .tmp 4]) H := by kernel_rfl
theorem LDP32 {i off : Nat} {H : Heap} : loadK Tryz.prog 32 (.ptr i off) H = boxGetA H[i]? off 3 := loadK_pA Tryz.underlying32 (by kernel_rfl) (by kernel_rfl)
theorem AL32 {β : Type} {cf : CallF} {l : FL} {env : Env} {H : Heap} {k : Env → Heap → Option β} {d : Option Nat} : flatK Tryz.prog cf ((none, d, .alloc 32) :: l) env H k = flatK Tryz.prog cf l (env.put d (.ptr H.length 0)) (H ++ [.box [.nils, .nils, .nils]]) k := fk_allocz (by kernel_rfl)
theorem CO28 : Tryz.prog.cellsOf 28 = 1 := by kernel_rfl
theorem CO29 : Tryz.prog.cellsOf 29 = 1 := by kernel_rfl
theorem CO30 : Tryz.prog.cellsOf 30 = 1 := by kernel_rfl
theorem BLD32_ : buildV Tryz.prog 32 [] = some (.agg ([.nils] ++ [.nils] ++ [.nils])) := by kernel_rfl
theorem STP32 {i off : Nat} {xs : List AV} {H : Heap} (hn : xs.length = 3) (ho : xs.all AV.one = true) : storeK Tryz.prog 32 (.ptr i off) (.agg xs) H = boxSetA H[i]? H i off xs := storeK_pA Tryz.underlying32 (by kernel_rfl) hn ho
theorem BSL28_1 {v0 : AV} {H : Heap} (hst : stills [v0] = true) (hsz : sizedV 1 [v0] = true) (hkn : ([v0] : List AV).all AV.kn = true) : buildSliceV Tryz.prog 28 1 [(0, v0)] H = some (.ref H.length 0 1, H ++ [.row true 1 [v0]]) := buildSlice_still (vs := [v0]) (z := [.str ⟨#[]⟩]) (z' := .str ⟨#[]⟩) Tryz.underlying28 (by kernel_rfl) (by kernel_rfl) (by kernel_rfl) (by kernel_rfl) (by kernel_rfl) rfl (by decide) (by decide) hst hsz hkn
theorem BLD32_0 {v0 : AV} (h0 : v0.one = true) : buildV Tryz.prog 32 [(0, v0)] = some (.agg ([v0] ++ [.nils] ++ [.nils])) := buildV_of (z := [.nils, .nils, .nils]) (by kernel_rfl) (.inl ⟨_, Tryz.underlying32, by kernel_rfl, rfl⟩) (by have c0 := cells_one h0; simp [fillCs, splice, placesP, c0, h0, CO28, CO29, CO30])
theorem CO32 : Tryz.prog.cellsOf 32 = 3 := by kernel_rfl
theorem BLD62_0 {x0 : List AV} (h0 : x0.length = 3) (o0 : x0.all AV.one = true) : buildV Tryz.prog 62 [(0, .agg x0)] = some (.agg (x0)) := buildV_of (z := [.nils, .nils, .nils]) (by kernel_rfl) (.inl ⟨_, Tryz.underlying62, by kernel_rfl, rfl⟩) (by have c0 : (AV.agg x0).cells = x0 := rfl; simp [fillCs, splice, placesP, c0, h0, o0, CO32])
theorem FAP66_1 {i off : Nat} : fieldAddrV Tryz.prog 66 (.ptr i off) 1 = some (.ptr i (off + 1)) := by kernel_rfl
theorem FAE66_1 {i n off : Nat} : fieldAddrV Tryz.prog 66 (.eptr i n off) 1 = some (.eptr i n (off + 1)) := by kernel_rfl
theorem FAR66_1 {cs : List AV} {v : AV} (h : cs[1]? = some v) (ho : v.one = true) : fieldAddrV Tryz.prog 66 (.raddr (.agg cs)) 1 = some (.raddr v) := far_one Tryz.underlying66 rfl rfl (by kernel_rfl) Tryz.underlying3 (by kernel_rfl) h ho
theorem FAP66_0 {i off : Nat} : fieldAddrV Tryz.prog 66 (.ptr i off) 0 = some (.ptr i (off + 0)) := by kernel_rfl
theorem FAE66_0 {i n off : Nat} : fieldAddrV Tryz.prog 66 (.eptr i n off) 0 = some (.eptr i n (off + 0)) := by kernel_rfl
theorem FAR66_0 {cs : List AV} {v : AV} (h : cs[0]? = some v) (ho : v.one = true) : fieldAddrV Tryz.prog 66 (.raddr (.agg cs)) 0 = some (.raddr v) := far_one Tryz.underlying66 rfl rfl (by kernel_rfl) Tryz.underlying25 (by kernel_rfl) h ho
theorem LDP25 {i off : Nat} {H : Heap} : loadK Tryz.prog 25 (.ptr i off) H = boxGet H[i]? off := loadK_p1 Tryz.underlying25 (by kernel_rfl)
theorem LDE25 {i idx off : Nat} {H : Heap} : loadK Tryz.prog 25 (.eptr i idx off) H = eltGet (rowOb H[i]?) idx off := loadK_e1 Tryz.underlying25 (by kernel_rfl)
theorem LDR25 {v : AV} {H : Heap} (hn : v.one = true) : loadK Tryz.prog 25 (.raddr v) H = some v := loadK_rone Tryz.underlying25 (by kernel_rfl) hn
theorem LDE32 {i idx off : Nat} {H : Heap} : loadK Tryz.prog 32 (.eptr i idx off) H = eltGetA (rowOb H[i]?) idx off 3 := loadK_eA Tryz.underlying32 (by kernel_rfl) (by kernel_rfl)
theorem LDR32 {cs : List AV} {H : Heap} (hn : cs.length = 3) : loadK Tryz.prog 32 (.raddr (.agg cs)) H = some (.agg cs) := loadK_ragg Tryz.underlying32 (by kernel_rfl) (by kernel_rfl) hn
theorem KL9_0 : keepLOf Tryz.f9 0 = some [0] := by kernel_rfl
theorem KL9_1 : keepLOf Tryz.f9 1 = some [0, 2] := by kernel_rfl
theorem KL9_2 : keepLOf Tryz.f9 2 = some [2] := by kernel_rfl
theorem KL9_3 : keepLOf Tryz.f9 3 = some [0, 2] := by kernel_rfl
theorem KL9_4 : keepLOf Tryz.f9 4 = some [0, 2, 5] := by kernel_rfl
theorem KL9_5 : keepLOf Tryz.f9 5 = some [2, 5, 6] := by kernel_rfl
theorem KL9_6 : keepLOf Tryz.f9 6 = some [2, 6] := by kernel_rfl
theorem KL9_7 : keepLOf Tryz.f9 7 = some [2, 5] := by kernel_rfl
-- 4 raddle/raddlelaw15.FileNone
noncomputable def r4_0 : Array Oper := regionOf Tryz.f4.body 0
noncomputable def r4_1 : Array Oper := regionOf Tryz.f4.body 1
noncomputable def r4_2 : Array Oper := regionOf Tryz.f4.body 2
noncomputable def r4_3 : Array Oper := regionOf Tryz.f4.body 3
noncomputable def r4_4 : Array Oper := regionOf Tryz.f4.body 4
noncomputable def r4_5 : Array Oper := regionOf Tryz.f4.body 5
noncomputable def r4_6 : Array Oper := regionOf Tryz.f4.body 6
noncomputable def r4_7 : Array Oper := regionOf Tryz.f4.body 7
noncomputable def r4_8 : Array Oper := regionOf Tryz.f4.body 8
noncomputable def r4_9 : Array Oper := regionOf Tryz.f4.body 9
noncomputable def r4_10 : Array Oper := regionOf Tryz.f4.body 10
noncomputable def r4_11 : Array Oper := regionOf Tryz.f4.body 11
noncomputable def r4_12 : Array Oper := regionOf Tryz.f4.body 12
noncomputable def r4_13 : Array Oper := regionOf Tryz.f4.body 13
noncomputable def r4_14 : Array Oper := regionOf Tryz.f4.body 14
noncomputable def r4_15 : Array Oper := regionOf Tryz.f4.body 15
noncomputable def r4_16 : Array Oper := regionOf Tryz.f4.body 16
noncomputable def r4_17 : Array Oper := regionOf Tryz.f4.body 17
noncomputable def r4_18 : Array Oper := regionOf Tryz.f4.body 18
noncomputable def c4_0 : Code := (.region 13 r4_13 false)
--CONT 0 13
noncomputable def l4_1 : Code := (.seq (.region 9 r4_9 false) (.seq (.cond (.tmp 30) .skip (.exit 2)) (.seq (.block 3 (.seq (.region 10 r4_10 false) (.seq (.region 11 r4_11 false) (.cond (.tmp 39) (.region 12 r4_12 false) .skip)))) c4_0)))
--LOOP 1 9
noncomputable def c4_2 : Code := (.region 14 r4_14 false)
--CONT 2 14
noncomputable def c4_3 : Code := (.region 15 r4_15 false)
--CONT 3 15
noncomputable def l4_4 : Code := (.seq (.region 4 r4_4 false) (.seq (.cond (.tmp 19) .skip (.exit 0)) (.seq (.block 1 (.seq (.region 5 r4_5 false) (.seq (.seq (.region 6 r4_6 false) (.cond (.tmp 24) (.exit 0) .skip)) (.seq (.region 7 r4_7 false) (.seq (.seq (.region 8 r4_8 false) (.block 2 (.loop l4_1))) c4_2))))) c4_3)))
--LOOP 4 4
noncomputable def c4_5 : Code := (.seq (.region 16 r4_16 false) (.seq (.region 17 r4_17 false) (.seq (.region 18 r4_18 false) .ret)))
--CONT 5 16
theorem Uc4_0 {ro : Option Nat} {fn : Func} {K : List Item} {env : Env} {D : List DV} {H : Heap} : runL C1 ro fn (.code c4_0 :: K) env D H = runL C1 ro fn (.code (.region 13 r4_13 false) :: K) env D H := rfl
theorem Ul4_1 {ro : Option Nat} {fn : Func} {K : List Item} {env : Env} {D : List DV} {H : Heap} : runL C1 ro fn (.code l4_1 :: K) env D H = runL C1 ro fn (.code (.seq (.region 9 r4_9 false) (.seq (.cond (.tmp 30) .skip (.exit 2)) (.seq (.block 3 (.seq (.region 10 r4_10 false) (.seq (.region 11 r4_11 false) (.cond (.tmp 39) (.region 12 r4_12 false) .skip)))) c4_0))) :: K) env D H := rfl
theorem Uc4_2 {ro : Option Nat} {fn : Func} {K : List Item} {env : Env} {D : List DV} {H : Heap} : runL C1 ro fn (.code c4_2 :: K) env D H = runL C1 ro fn (.code (.region 14 r4_14 false) :: K) env D H := rfl
theorem Uc4_3 {ro : Option Nat} {fn : Func} {K : List Item} {env : Env} {D : List DV} {H : Heap} : runL C1 ro fn (.code c4_3 :: K) env D H = runL C1 ro fn (.code (.region 15 r4_15 false) :: K) env D H := rfl
theorem Ul4_4 {ro : Option Nat} {fn : Func} {K : List Item} {env : Env} {D : List DV} {H : Heap} : runL C1 ro fn (.code l4_4 :: K) env D H = runL C1 ro fn (.code (.seq (.region 4 r4_4 false) (.seq (.cond (.tmp 19) .skip (.exit 0)) (.seq (.block 1 (.seq (.region 5 r4_5 false) (.seq (.seq (.region 6 r4_6 false) (.cond (.tmp 24) (.exit 0) .skip)) (.seq (.region 7 r4_7 false) (.seq (.seq (.region 8 r4_8 false) (.block 2 (.loop l4_1))) c4_2))))) c4_3))) :: K) env D H := rfl
theorem Uc4_5 {ro : Option Nat} {fn : Func} {K : List Item} {env : Env} {D : List DV} {H : Heap} : runL C1 ro fn (.code c4_5 :: K) env D H = runL C1 ro fn (.code (.seq (.region 16 r4_16 false) (.seq (.region 17 r4_17 false) (.seq (.region 18 r4_18 false) .ret))) :: K) env D H := rfl
noncomputable def b4 : Code := (.seq (.region 0 r4_0 false) (.seq (.region 1 r4_1 false) (.seq (.region 2 r4_2 false) (.seq (.seq (.region 3 r4_3 false) (.block 0 (.loop l4_4))) c4_5))))
theorem f4_body : Tryz.f4.body = some b4 := by kernel_rfl
theorem R4_0 {K : List Item} {env : Env} {D : List DV} {H : Heap} : runL C1 none Tryz.f4 (.code (.region 0 r4_0 false) :: K) env D H = flatK Tryz.prog (callL C1) [(none, some 2, .assign (.const (.bool false)))] env H (kont C1 none Tryz.f4 K (some [0]) D) :=
  runL_flatE rfl (by kernel_rfl) (by kernel_rfl) (by kernel_rfl) (by kernel_rfl)
theorem R4_1 {K : List Item} {env : Env} {D : List DV} {H : Heap} : runL C1 none Tryz.f4 (.code (.region 1 r4_1 false) :: K) env D H = flatK Tryz.prog (callL C1) [(none, some 15, .call ⟨(.value (.func 7)), #[], #[]⟩),
    (none, some 3, .assign (.tmp 15))] env H (kont C1 none Tryz.f4 K (some [0, 3]) D) :=
  runL_flatE rfl (by kernel_rfl) (by kernel_rfl) (by kernel_rfl) (by kernel_rfl)
theorem R4_2 {K : List Item} {env : Env} {D : List DV} {H : Heap} : runL C1 none Tryz.f4 (.code (.region 2 r4_2 false) :: K) env D H = flatK Tryz.prog (callL C1) [(none, some 4, .assign (.const (.string ⟨#[]⟩)))] env H (kont C1 none Tryz.f4 K (some [0, 3, 4]) D) :=
  runL_flatE rfl (by kernel_rfl) (by kernel_rfl) (by kernel_rfl) (by kernel_rfl)
theorem R4_3 {K : List Item} {env : Env} {D : List DV} {H : Heap} : runL C1 none Tryz.f4 (.code (.region 3 r4_3 false) :: K) env D H = flatK Tryz.prog (callL C1) [(none, some 16, .move (.tmp 0)),
    (none, some 17, .call ⟨(.builtin .len), #[(.tmp 16)], #[45]⟩),
    (none, some 18, .move (.const (.int .i64 (0))))] env H (kont C1 none Tryz.f4 K (some [3, 4, 16, 17, 18]) D) :=
  runL_flatE rfl (by kernel_rfl) (by kernel_rfl) (by kernel_rfl) (by kernel_rfl)
theorem R4_4 {K : List Item} {env : Env} {D : List DV} {H : Heap} : runL C1 none Tryz.f4 (.code (.region 4 r4_4 false) :: K) env D H = flatK Tryz.prog (callL C1) [(none, some 19, .binOp .lss 3 (.tmp 18) (.tmp 17) 3)] env H (kont C1 none Tryz.f4 K (some [3, 4, 16, 17, 18, 19]) D) :=
  runL_flatE rfl (by kernel_rfl) (by kernel_rfl) (by kernel_rfl) (by kernel_rfl)
theorem R4_5 {K : List Item} {env : Env} {D : List DV} {H : Heap} : runL C1 none Tryz.f4 (.code (.region 5 r4_5 false) :: K) env D H = flatK Tryz.prog (callL C1) [(none, some 20, .move (.tmp 18)),
    (none, some 21, .indexAddr 45 (.tmp 16) (.tmp 18)),
    (none, some 22, .load 23 (.tmp 21)),
    (none, some 5, .assign (.tmp 20)),
    (none, some 6, .assign (.tmp 22))] env H (kont C1 none Tryz.f4 K (some [3, 4, 5, 6, 16, 17, 18]) D) :=
  runL_flatE rfl (by kernel_rfl) (by kernel_rfl) (by kernel_rfl) (by kernel_rfl)
theorem R4_6 {K : List Item} {env : Env} {D : List DV} {H : Heap} : runL C1 none Tryz.f4 (.code (.region 6 r4_6 false) :: K) env D H = flatK Tryz.prog (callL C1) [(none, some 23, .move (.tmp 5)),
    (none, some 24, .binOp .geq 3 (.tmp 23) (.const (.int .i64 (20))) 3)] env H (kont C1 none Tryz.f4 K (some [3, 4, 6, 16, 17, 18, 24]) D) :=
  runL_flatE rfl (by kernel_rfl) (by kernel_rfl) (by kernel_rfl) (by kernel_rfl)
theorem R4_7 {K : List Item} {env : Env} {D : List DV} {H : Heap} : runL C1 none Tryz.f4 (.code (.region 7 r4_7 false) :: K) env D H = flatK Tryz.prog (callL C1) [(none, some 25, .move (.tmp 4)),
    (none, some 26, .binOp .add 9 (.tmp 25) (.const (.string ⟨#[35]⟩)) 9),
    (none, some 4, .assign (.tmp 26))] env H (kont C1 none Tryz.f4 K (some [3, 4, 6, 16, 17, 18]) D) :=
  runL_flatE rfl (by kernel_rfl) (by kernel_rfl) (by kernel_rfl) (by kernel_rfl)
theorem R4_8 {K : List Item} {env : Env} {D : List DV} {H : Heap} : runL C1 none Tryz.f4 (.code (.region 8 r4_8 false) :: K) env D H = flatK Tryz.prog (callL C1) [(none, some 27, .move (.tmp 6)),
    (none, some 28, .call ⟨(.builtin .len), #[(.tmp 27)], #[23]⟩),
    (none, some 29, .move (.const (.int .i64 (0))))] env H (kont C1 none Tryz.f4 K (some [3, 4, 16, 17, 18, 27, 28, 29]) D) :=
  runL_flatE rfl (by kernel_rfl) (by kernel_rfl) (by kernel_rfl) (by kernel_rfl)
theorem R4_9 {K : List Item} {env : Env} {D : List DV} {H : Heap} : runL C1 none Tryz.f4 (.code (.region 9 r4_9 false) :: K) env D H = flatK Tryz.prog (callL C1) [(none, some 30, .binOp .lss 3 (.tmp 29) (.tmp 28) 3)] env H (kont C1 none Tryz.f4 K (some [3, 4, 16, 17, 18, 27, 28, 29, 30]) D) :=
  runL_flatE rfl (by kernel_rfl) (by kernel_rfl) (by kernel_rfl) (by kernel_rfl)
theorem R4_10 {K : List Item} {env : Env} {D : List DV} {H : Heap} : runL C1 none Tryz.f4 (.code (.region 10 r4_10 false) :: K) env D H = flatK Tryz.prog (callL C1) [(none, some 31, .move (.tmp 29)),
    (none, some 32, .indexAddr 23 (.tmp 27) (.tmp 29)),
    (none, some 33, .load 5 (.tmp 32)),
    (none, some 7, .assign (.tmp 31)),
    (none, some 8, .assign (.tmp 33))] env H (kont C1 none Tryz.f4 K (some [3, 4, 7, 8, 16, 17, 18, 27, 28, 29]) D) :=
  runL_flatE rfl (by kernel_rfl) (by kernel_rfl) (by kernel_rfl) (by kernel_rfl)
theorem R4_11 {K : List Item} {env : Env} {D : List DV} {H : Heap} : runL C1 none Tryz.f4 (.code (.region 11 r4_11 false) :: K) env D H = flatK Tryz.prog (callL C1) [(none, some 34, .move (.tmp 7)),
    (none, some 35, .binOp .lss 3 (.tmp 34) (.const (.int .i64 (50))) 3),
    (none, some 36, .move (.tmp 35)),
    (some (some 36, true), some 37, .move (.tmp 8)),
    (some (some 36, true), some 38, .binOp .neq 5 (.tmp 37) (.const (.int .u8 (10))) 5),
    (none, some 39, .pick (.tmp 36) (.tmp 38) (.const (.bool false)))] env H (kont C1 none Tryz.f4 K (some [3, 4, 8, 16, 17, 18, 27, 28, 29, 39]) D) :=
  runL_flatE rfl (by kernel_rfl) (by kernel_rfl) (by kernel_rfl) (by kernel_rfl)
theorem R4_12 {K : List Item} {env : Env} {D : List DV} {H : Heap} : runL C1 none Tryz.f4 (.code (.region 12 r4_12 false) :: K) env D H = flatK Tryz.prog (callL C1) [(none, some 40, .move (.tmp 4)),
    (none, some 41, .move (.tmp 8)),
    (none, some 42, .buildSlice 23 1 #[(0, (.tmp 41))]),
    (none, some 43, .convert 23 9 (.tmp 42)),
    (none, some 44, .binOp .add 9 (.tmp 40) (.tmp 43) 9),
    (none, some 4, .assign (.tmp 44))] env H (kont C1 none Tryz.f4 K (some [3, 4, 16, 17, 18, 27, 28, 29]) D) :=
  runL_flatE rfl (by kernel_rfl) (by kernel_rfl) (by kernel_rfl) (by kernel_rfl)
theorem R4_13 {K : List Item} {env : Env} {D : List DV} {H : Heap} : runL C1 none Tryz.f4 (.code (.region 13 r4_13 false) :: K) env D H = flatK Tryz.prog (callL C1) [(none, some 45, .binOp .add 3 (.tmp 29) (.const (.int .i64 (1))) 3),
    (none, some 29, .move (.tmp 45))] env H (kont C1 none Tryz.f4 K (some [3, 4, 16, 17, 18, 27, 28, 29]) D) :=
  runL_flatE rfl (by kernel_rfl) (by kernel_rfl) (by kernel_rfl) (by kernel_rfl)
theorem R4_14 {K : List Item} {env : Env} {D : List DV} {H : Heap} : runL C1 none Tryz.f4 (.code (.region 14 r4_14 false) :: K) env D H = flatK Tryz.prog (callL C1) [(none, some 46, .move (.tmp 4)),
    (none, some 47, .binOp .add 9 (.tmp 46) (.const (.string ⟨#[10, 10]⟩)) 9),
    (none, some 4, .assign (.tmp 47))] env H (kont C1 none Tryz.f4 K (some [3, 4, 16, 17, 18]) D) :=
  runL_flatE rfl (by kernel_rfl) (by kernel_rfl) (by kernel_rfl) (by kernel_rfl)
theorem R4_15 {K : List Item} {env : Env} {D : List DV} {H : Heap} : runL C1 none Tryz.f4 (.code (.region 15 r4_15 false) :: K) env D H = flatK Tryz.prog (callL C1) [(none, some 48, .binOp .add 3 (.tmp 18) (.const (.int .i64 (1))) 3),
    (none, some 18, .move (.tmp 48))] env H (kont C1 none Tryz.f4 K (some [3, 4, 16, 17, 18]) D) :=
  runL_flatE rfl (by kernel_rfl) (by kernel_rfl) (by kernel_rfl) (by kernel_rfl)
theorem R4_16 {K : List Item} {env : Env} {D : List DV} {H : Heap} : runL C1 none Tryz.f4 (.code (.region 16 r4_16 false) :: K) env D H = flatK Tryz.prog (callL C1) [(none, some 50, .move (.tmp 4)),
    (none, some 51, .call ⟨(.value (.func 9)), #[(.tmp 50)], #[9]⟩),
    (none, some 49, .move (.tmp 51)),
    (none, some 52, .extract (.tmp 49) 0),
    (none, some 53, .extract (.tmp 49) 1),
    (none, some 54, .extract (.tmp 49) 2),
    (none, some 9, .alloc 32),
    (none, none, .store 32 (.tmp 9) (.tmp 52)),
    (none, some 10, .assign (.tmp 53)),
    (none, some 11, .assign (.tmp 54))] env H (kont C1 none Tryz.f4 K (some [3, 4, 9, 10, 11]) D) :=
  runL_flatE rfl (by kernel_rfl) (by kernel_rfl) (by kernel_rfl) (by kernel_rfl)
theorem R4_17 {K : List Item} {env : Env} {D : List DV} {H : Heap} : runL C1 none Tryz.f4 (.code (.region 17 r4_17 false) :: K) env D H = flatK Tryz.prog (callL C1) [(none, some 56, .move (.tmp 4)),
    (none, some 57, .binOp .add 9 (.tmp 56) (.const (.string ⟨#[32, 120]⟩)) 9),
    (none, some 58, .call ⟨(.value (.func 9)), #[(.tmp 57)], #[9]⟩),
    (none, some 55, .move (.tmp 58)),
    (none, some 59, .extract (.tmp 55) 0),
    (none, some 60, .extract (.tmp 55) 1),
    (none, some 61, .extract (.tmp 55) 2),
    (none, some 12, .alloc 32),
    (none, none, .store 32 (.tmp 12) (.tmp 59)),
    (none, some 13, .assign (.tmp 60)),
    (none, some 14, .assign (.tmp 61))] env H (kont C1 none Tryz.f4 K (some [3, 4, 9, 10, 11, 13, 14]) D) :=
  runL_flatE rfl (by kernel_rfl) (by kernel_rfl) (by kernel_rfl) (by kernel_rfl)
theorem R4_18 {K : List Item} {env : Env} {D : List DV} {H : Heap} : runL C1 none Tryz.f4 (.code (.region 18 r4_18 false) :: K) env D H = flatK Tryz.prog (callL C1) [(none, some 62, .move (.tmp 3)),
    (none, some 63, .move (.tmp 62)),
    (some (some 63, true), some 64, .move (.tmp 11)),
    (some (some 63, true), some 65, .binOp .eql 25 (.tmp 64) (.const (.int .i64 (0))) 25),
    (none, some 66, .pick (.tmp 63) (.tmp 65) (.const (.bool false))),
    (none, some 67, .move (.tmp 66)),
    (some (some 67, true), some 68, .move (.tmp 10)),
    (some (some 67, true), some 69, .binOp .eql 3 (.tmp 68) (.const (.int .i64 (0))) 3),
    (none, some 70, .pick (.tmp 67) (.tmp 69) (.const (.bool false))),
    (none, some 71, .move (.tmp 70)),
    (some (some 71, true), some 72, .fieldAddr 32 (.tmp 9) 2),
    (some (some 71, true), some 73, .load 30 (.tmp 72)),
    (some (some 71, true), some 74, .call ⟨(.builtin .len), #[(.tmp 73)], #[30]⟩),
    (some (some 71, true), some 75, .binOp .eql 3 (.tmp 74) (.const (.int .i64 (0))) 3),
    (none, some 76, .pick (.tmp 71) (.tmp 75) (.const (.bool false))),
    (none, some 77, .move (.tmp 76)),
    (some (some 77, true), some 78, .fieldAddr 32 (.tmp 9) 1),
    (some (some 77, true), some 79, .load 29 (.tmp 78)),
    (some (some 77, true), some 80, .call ⟨(.builtin .len), #[(.tmp 79)], #[29]⟩),
    (some (some 77, true), some 81, .binOp .eql 3 (.tmp 80) (.const (.int .i64 (0))) 3),
    (none, some 82, .pick (.tmp 77) (.tmp 81) (.const (.bool false))),
    (none, some 83, .move (.tmp 82)),
    (some (some 83, true), some 84, .fieldAddr 32 (.tmp 9) 0),
    (some (some 83, true), some 85, .load 28 (.tmp 84)),
    (some (some 83, true), some 86, .call ⟨(.builtin .len), #[(.tmp 85)], #[28]⟩),
    (some (some 83, true), some 87, .binOp .eql 3 (.tmp 86) (.const (.int .i64 (1))) 3),
    (none, some 88, .pick (.tmp 83) (.tmp 87) (.const (.bool false))),
    (none, some 89, .move (.tmp 88)),
    (some (some 89, true), some 90, .fieldAddr 32 (.tmp 9) 0),
    (some (some 89, true), some 91, .load 28 (.tmp 90)),
    (some (some 89, true), some 92, .indexAddr 28 (.tmp 91) (.const (.int .i64 (0)))),
    (some (some 89, true), some 93, .load 9 (.tmp 92)),
    (some (some 89, true), some 94, .binOp .eql 9 (.tmp 93) (.const (.string ⟨#[115, 116, 97, 114, 116]⟩)) 9),
    (none, some 95, .pick (.tmp 89) (.tmp 94) (.const (.bool false))),
    (none, some 96, .move (.tmp 95)),
    (some (some 96, true), some 97, .move (.tmp 14)),
    (some (some 96, true), some 98, .binOp .eql 25 (.tmp 97) (.const (.int .i64 (150))) 25),
    (none, some 99, .pick (.tmp 96) (.tmp 98) (.const (.bool false))),
    (none, some 100, .move (.tmp 99)),
    (some (some 100, true), some 101, .move (.tmp 13)),
    (some (some 100, true), some 102, .move (.tmp 4)),
    (some (some 100, true), some 103, .call ⟨(.builtin .len), #[(.tmp 102)], #[9]⟩),
    (some (some 100, true), some 104, .binOp .eql 3 (.tmp 101) (.tmp 103) 3),
    (none, some 105, .pick (.tmp 100) (.tmp 104) (.const (.bool false))),
    (none, some 2, .assign (.tmp 105))] env H (kont C1 none Tryz.f4 K (some [2]) D) :=
  runL_flatE rfl (by kernel_rfl) (by kernel_rfl) (by kernel_rfl) (by kernel_rfl)
theorem FIN4 {env : Env} {H : Heap} : finishV Tryz.prog Tryz.f4 env H = some ((env 2), H) := by kernel_rfl
theorem LEN45 {s : List AV} {H : Heap} : builtinV Tryz.prog .len #[45] [.sl s] H = some (.int .i64 s.length, H) := len_sl rfl Tryz.underlying45
theorem LENN45 {H : Heap} : builtinV Tryz.prog .len #[45] [.nils] H = some (.int .i64 0, H) := len_nils rfl Tryz.underlying45
theorem LENR45 {i o n : Nat} {H : Heap} : builtinV Tryz.prog .len #[45] [.ref i o n] H = some (.int .i64 n, H) := len_ref rfl Tryz.underlying45
theorem IA45 {es : List AV} {k : IntKind} {i : Int} {H : Heap} (h0 : 0 ≤ i) : indexAddrV Tryz.prog 45 (.sl es) (.int k i) H = slAddr es[i.toNat]? 1 := ia_slA Tryz.underlying45 Tryz.underlying23 (by kernel_rfl) h0
theorem IAR45 {r o n : Nat} {k : IntKind} {i : Int} {H : Heap} (h0 : 0 ≤ i) (h1 : i < n) : indexAddrV Tryz.prog 45 (.ref r o n) (.int k i) H = refAddr (rowOb H[r]?) 1 (.eptr r (o + i.toNat) 0) := ia_refA Tryz.underlying45 Tryz.underlying23 (by kernel_rfl) h0 h1
theorem LDP23 {i off : Nat} {H : Heap} : loadK Tryz.prog 23 (.ptr i off) H = boxGet H[i]? off := loadK_p1 Tryz.underlying23 (by kernel_rfl)
theorem LDE23 {i idx off : Nat} {H : Heap} : loadK Tryz.prog 23 (.eptr i idx off) H = eltGet (rowOb H[i]?) idx off := loadK_e1 Tryz.underlying23 (by kernel_rfl)
theorem LDR23 {v : AV} {H : Heap} (hn : v.one = true) : loadK Tryz.prog 23 (.raddr v) H = some v := loadK_rone Tryz.underlying23 (by kernel_rfl) hn
theorem LEN23 {s : List AV} {H : Heap} : builtinV Tryz.prog .len #[23] [.sl s] H = some (.int .i64 s.length, H) := len_sl rfl Tryz.underlying23
theorem LENN23 {H : Heap} : builtinV Tryz.prog .len #[23] [.nils] H = some (.int .i64 0, H) := len_nils rfl Tryz.underlying23
theorem LENR23 {i o n : Nat} {H : Heap} : builtinV Tryz.prog .len #[23] [.ref i o n] H = some (.int .i64 n, H) := len_ref rfl Tryz.underlying23
theorem IA23 {es : List AV} {k : IntKind} {i : Int} {H : Heap} (h0 : 0 ≤ i) : indexAddrV Tryz.prog 23 (.sl es) (.int k i) H = slAddr es[i.toNat]? 1 := ia_slA Tryz.underlying23 Tryz.underlying5 (by kernel_rfl) h0
theorem IAR23 {r o n : Nat} {k : IntKind} {i : Int} {H : Heap} (h0 : 0 ≤ i) (h1 : i < n) : indexAddrV Tryz.prog 23 (.ref r o n) (.int k i) H = refAddr (rowOb H[r]?) 1 (.eptr r (o + i.toNat) 0) := ia_refA Tryz.underlying23 Tryz.underlying5 (by kernel_rfl) h0 h1
theorem LDP5 {i off : Nat} {H : Heap} : loadK Tryz.prog 5 (.ptr i off) H = boxGet H[i]? off := loadK_p1 Tryz.underlying5 (by kernel_rfl)
theorem LDE5 {i idx off : Nat} {H : Heap} : loadK Tryz.prog 5 (.eptr i idx off) H = eltGet (rowOb H[i]?) idx off := loadK_e1 Tryz.underlying5 (by kernel_rfl)
theorem LDR5 {v : AV} {H : Heap} (hn : v.one = true) : loadK Tryz.prog 5 (.raddr v) H = some v := loadK_rone Tryz.underlying5 (by kernel_rfl) hn
theorem BSL23_1 {v0 : AV} {H : Heap} (hst : stills [v0] = true) (hsz : sizedV 1 [v0] = true) (hkn : ([v0] : List AV).all AV.kn = true) : buildSliceV Tryz.prog 23 1 [(0, v0)] H = some (.ref H.length 0 1, H ++ [.row true 1 [v0]]) := buildSlice_still (vs := [v0]) (z := [.int .u8 (0)]) (z' := .int .u8 (0)) Tryz.underlying23 (by kernel_rfl) (by kernel_rfl) (by kernel_rfl) (by kernel_rfl) (by kernel_rfl) rfl (by decide) (by decide) hst hsz hkn
theorem CVB23_9 {cl : Bool} {c : Int} {H : Heap} (h0 : 0 ≤ c) (h1 : c < 256) : convertV Tryz.prog 23 9 (.ref H.length 0 1) (H ++ [.row cl 1 [.int .u8 c]]) = some (.str ⟨#[UInt8.ofNat c.toNat]⟩, H ++ [.row cl 1 [.int .u8 c]]) := conv_byte (dd := .bool) Tryz.underlying23 Tryz.underlying9 Tryz.underlying5 h0 h1
theorem LEN29 {s : List AV} {H : Heap} : builtinV Tryz.prog .len #[29] [.sl s] H = some (.int .i64 s.length, H) := len_sl rfl Tryz.underlying29
theorem LENN29 {H : Heap} : builtinV Tryz.prog .len #[29] [.nils] H = some (.int .i64 0, H) := len_nils rfl Tryz.underlying29
theorem LENR29 {i o n : Nat} {H : Heap} : builtinV Tryz.prog .len #[29] [.ref i o n] H = some (.int .i64 n, H) := len_ref rfl Tryz.underlying29
theorem FAP32_0 {i off : Nat} : fieldAddrV Tryz.prog 32 (.ptr i off) 0 = some (.ptr i (off + 0)) := by kernel_rfl
theorem FAE32_0 {i n off : Nat} : fieldAddrV Tryz.prog 32 (.eptr i n off) 0 = some (.eptr i n (off + 0)) := by kernel_rfl
theorem FAR32_0 {cs : List AV} {v : AV} (h : cs[0]? = some v) (ho : v.one = true) : fieldAddrV Tryz.prog 32 (.raddr (.agg cs)) 0 = some (.raddr v) := far_one Tryz.underlying32 rfl rfl (by kernel_rfl) Tryz.underlying28 (by kernel_rfl) h ho
theorem LDP28 {i off : Nat} {H : Heap} : loadK Tryz.prog 28 (.ptr i off) H = boxGet H[i]? off := loadK_p1 Tryz.underlying28 (by kernel_rfl)
theorem LDE28 {i idx off : Nat} {H : Heap} : loadK Tryz.prog 28 (.eptr i idx off) H = eltGet (rowOb H[i]?) idx off := loadK_e1 Tryz.underlying28 (by kernel_rfl)
theorem LDR28 {v : AV} {H : Heap} (hn : v.one = true) : loadK Tryz.prog 28 (.raddr v) H = some v := loadK_rone Tryz.underlying28 (by kernel_rfl) hn
theorem LEN28 {s : List AV} {H : Heap} : builtinV Tryz.prog .len #[28] [.sl s] H = some (.int .i64 s.length, H) := len_sl rfl Tryz.underlying28
theorem LENN28 {H : Heap} : builtinV Tryz.prog .len #[28] [.nils] H = some (.int .i64 0, H) := len_nils rfl Tryz.underlying28
theorem LENR28 {i o n : Nat} {H : Heap} : builtinV Tryz.prog .len #[28] [.ref i o n] H = some (.int .i64 n, H) := len_ref rfl Tryz.underlying28
theorem IA28 {es : List AV} {k : IntKind} {i : Int} {H : Heap} (h0 : 0 ≤ i) : indexAddrV Tryz.prog 28 (.sl es) (.int k i) H = slAddr es[i.toNat]? 1 := ia_slA Tryz.underlying28 Tryz.underlying9 (by kernel_rfl) h0
theorem IAR28 {r o n : Nat} {k : IntKind} {i : Int} {H : Heap} (h0 : 0 ≤ i) (h1 : i < n) : indexAddrV Tryz.prog 28 (.ref r o n) (.int k i) H = refAddr (rowOb H[r]?) 1 (.eptr r (o + i.toNat) 0) := ia_refA Tryz.underlying28 Tryz.underlying9 (by kernel_rfl) h0 h1
theorem KL4_0 : keepLOf Tryz.f4 0 = some [0] := by kernel_rfl
theorem KL4_1 : keepLOf Tryz.f4 1 = some [0] := by kernel_rfl
theorem KL4_2 : keepLOf Tryz.f4 2 = some [0, 3] := by kernel_rfl
theorem KL4_3 : keepLOf Tryz.f4 3 = some [0, 3, 4] := by kernel_rfl
theorem KL4_4 : keepLOf Tryz.f4 4 = some [3, 4, 16, 17, 18] := by kernel_rfl
theorem KL4_5 : keepLOf Tryz.f4 5 = some [3, 4, 16, 17, 18] := by kernel_rfl
theorem KL4_6 : keepLOf Tryz.f4 6 = some [3, 4, 5, 6, 16, 17, 18] := by kernel_rfl
theorem KL4_7 : keepLOf Tryz.f4 7 = some [3, 4, 6, 16, 17, 18] := by kernel_rfl
theorem KL4_8 : keepLOf Tryz.f4 8 = some [3, 4, 6, 16, 17, 18] := by kernel_rfl
theorem KL4_9 : keepLOf Tryz.f4 9 = some [3, 4, 16, 17, 18, 27, 28, 29] := by kernel_rfl
theorem KL4_10 : keepLOf Tryz.f4 10 = some [3, 4, 16, 17, 18, 27, 28, 29] := by kernel_rfl
theorem KL4_11 : keepLOf Tryz.f4 11 = some [3, 4, 7, 8, 16, 17, 18, 27, 28, 29] := by kernel_rfl
theorem KL4_12 : keepLOf Tryz.f4 12 = some [3, 4, 8, 16, 17, 18, 27, 28, 29] := by kernel_rfl
theorem KL4_13 : keepLOf Tryz.f4 13 = some [3, 4, 16, 17, 18, 27, 28, 29] := by kernel_rfl
theorem KL4_14 : keepLOf Tryz.f4 14 = some [3, 4, 16, 17, 18] := by kernel_rfl
theorem KL4_15 : keepLOf Tryz.f4 15 = some [3, 4, 16, 17, 18] := by kernel_rfl
theorem KL4_16 : keepLOf Tryz.f4 16 = some [3, 4] := by kernel_rfl
theorem KL4_17 : keepLOf Tryz.f4 17 = some [3, 4, 9, 10, 11] := by kernel_rfl
theorem KL4_18 : keepLOf Tryz.f4 18 = some [3, 4, 9, 10, 11, 13, 14] := by kernel_rfl
theorem FRC4_0 : firstReg c4_0 = some 13 := by kernel_rfl
theorem FRC4_2 : firstReg c4_2 = some 14 := by kernel_rfl
theorem FRC4_3 : firstReg c4_3 = some 15 := by kernel_rfl
theorem FRC4_5 : firstReg c4_5 = some 16 := by kernel_rfl
theorem FR4_1 : firstReg l4_1 = some 9 := by kernel_rfl
theorem LH4_1 {K : List Item} {env : Env} {D : List DV} {H : Heap} : runL C1 none Tryz.f4 (.code (.loop l4_1) :: K) env D H = runL C1 none Tryz.f4 (.inLoop l4_1 :: K) (E (keepE env [3, 4, 16, 17, 18, 27, 28, 29])) D H := runL_loopE (l := [3, 4, 16, 17, 18, 27, 28, 29]) (by kernel_rfl)
theorem LI4_1 {K : List Item} {env : Env} {D : List DV} {H : Heap} : runL C1 none Tryz.f4 (.inLoop l4_1 :: K) env D H = runL C1 none Tryz.f4 (.code (.seq (.region 9 r4_9 false) (.seq (.cond (.tmp 30) .skip (.exit 2)) (.seq (.block 3 (.seq (.region 10 r4_10 false) (.seq (.region 11 r4_11 false) (.cond (.tmp 39) (.region 12 r4_12 false) .skip)))) c4_0))) :: .inLoop l4_1 :: K) (E (keepE env [3, 4, 16, 17, 18, 27, 28, 29])) D H := runL_inLoopE (l := [3, 4, 16, 17, 18, 27, 28, 29]) (by kernel_rfl)
theorem FR4_4 : firstReg l4_4 = some 4 := by kernel_rfl
theorem LH4_4 {K : List Item} {env : Env} {D : List DV} {H : Heap} : runL C1 none Tryz.f4 (.code (.loop l4_4) :: K) env D H = runL C1 none Tryz.f4 (.inLoop l4_4 :: K) (E (keepE env [3, 4, 16, 17, 18])) D H := runL_loopE (l := [3, 4, 16, 17, 18]) (by kernel_rfl)
theorem LI4_4 {K : List Item} {env : Env} {D : List DV} {H : Heap} : runL C1 none Tryz.f4 (.inLoop l4_4 :: K) env D H = runL C1 none Tryz.f4 (.code (.seq (.region 4 r4_4 false) (.seq (.cond (.tmp 19) .skip (.exit 0)) (.seq (.block 1 (.seq (.region 5 r4_5 false) (.seq (.seq (.region 6 r4_6 false) (.cond (.tmp 24) (.exit 0) .skip)) (.seq (.region 7 r4_7 false) (.seq (.seq (.region 8 r4_8 false) (.block 2 (.loop l4_1))) c4_2))))) c4_3))) :: .inLoop l4_4 :: K) (E (keepE env [3, 4, 16, 17, 18])) D H := runL_inLoopE (l := [3, 4, 16, 17, 18]) (by kernel_rfl)
-- 47 raddle/syntax.letter
noncomputable def r47_0 : Array Oper := regionOf Tryz.f47.body 0
noncomputable def r47_1 : Array Oper := regionOf Tryz.f47.body 1
noncomputable def b47 : Code := (.seq (.region 0 r47_0 false) (.seq (.region 1 r47_1 false) .ret))
theorem f47_body : Tryz.f47.body = some b47 := by kernel_rfl
theorem R47_0 {K : List Item} {env : Env} {D : List DV} {H : Heap} : runL C1 none Tryz.f47 (.code (.region 0 r47_0 false) :: K) env D H = flatK Tryz.prog (callL C1) [(none, some 2, .assign (.const (.bool false)))] env H (kont C1 none Tryz.f47 K (some [0]) D) :=
  runL_flatE rfl (by kernel_rfl) (by kernel_rfl) (by kernel_rfl) (by kernel_rfl)
theorem R47_1 {K : List Item} {env : Env} {D : List DV} {H : Heap} : runL C1 none Tryz.f47 (.code (.region 1 r47_1 false) :: K) env D H = flatK Tryz.prog (callL C1) [(none, some 3, .move (.tmp 0)),
    (none, some 4, .binOp .geq 5 (.tmp 3) (.const (.int .u8 (97))) 5),
    (none, some 5, .move (.tmp 4)),
    (some (some 5, true), some 6, .move (.tmp 0)),
    (some (some 5, true), some 7, .binOp .leq 5 (.tmp 6) (.const (.int .u8 (122))) 5),
    (none, some 8, .pick (.tmp 5) (.tmp 7) (.const (.bool false))),
    (none, some 9, .move (.tmp 8)),
    (some (some 9, false), some 10, .move (.tmp 0)),
    (some (some 9, false), some 11, .binOp .geq 5 (.tmp 10) (.const (.int .u8 (65))) 5),
    (some (some 9, false), some 12, .move (.tmp 11)),
    (some (some 12, true), some 13, .move (.tmp 0)),
    (some (some 12, true), some 14, .binOp .leq 5 (.tmp 13) (.const (.int .u8 (90))) 5),
    (some (some 9, false), some 15, .pick (.tmp 12) (.tmp 14) (.const (.bool false))),
    (none, some 16, .pick (.tmp 9) (.const (.bool true)) (.tmp 15)),
    (none, some 17, .move (.tmp 16)),
    (some (some 17, false), some 18, .move (.tmp 0)),
    (some (some 17, false), some 19, .binOp .eql 5 (.tmp 18) (.const (.int .u8 (95))) 5),
    (none, some 20, .pick (.tmp 17) (.const (.bool true)) (.tmp 19)),
    (none, some 2, .assign (.tmp 20))] env H (kont C1 none Tryz.f47 K (some [2]) D) :=
  runL_flatE rfl (by kernel_rfl) (by kernel_rfl) (by kernel_rfl) (by kernel_rfl)
theorem FIN47 {env : Env} {H : Heap} : finishV Tryz.prog Tryz.f47 env H = some ((env 2), H) := by kernel_rfl
theorem KL47_0 : keepLOf Tryz.f47 0 = some [0] := by kernel_rfl
theorem KL47_1 : keepLOf Tryz.f47 1 = some [0] := by kernel_rfl
-- 48 raddle/syntax.digit
noncomputable def r48_0 : Array Oper := regionOf Tryz.f48.body 0
noncomputable def r48_1 : Array Oper := regionOf Tryz.f48.body 1
noncomputable def b48 : Code := (.seq (.region 0 r48_0 false) (.seq (.region 1 r48_1 false) .ret))
theorem f48_body : Tryz.f48.body = some b48 := by kernel_rfl
theorem R48_0 {K : List Item} {env : Env} {D : List DV} {H : Heap} : runL C1 none Tryz.f48 (.code (.region 0 r48_0 false) :: K) env D H = flatK Tryz.prog (callL C1) [(none, some 2, .assign (.const (.bool false)))] env H (kont C1 none Tryz.f48 K (some [0]) D) :=
  runL_flatE rfl (by kernel_rfl) (by kernel_rfl) (by kernel_rfl) (by kernel_rfl)
theorem R48_1 {K : List Item} {env : Env} {D : List DV} {H : Heap} : runL C1 none Tryz.f48 (.code (.region 1 r48_1 false) :: K) env D H = flatK Tryz.prog (callL C1) [(none, some 3, .move (.tmp 0)),
    (none, some 4, .binOp .geq 5 (.tmp 3) (.const (.int .u8 (48))) 5),
    (none, some 5, .move (.tmp 4)),
    (some (some 5, true), some 6, .move (.tmp 0)),
    (some (some 5, true), some 7, .binOp .leq 5 (.tmp 6) (.const (.int .u8 (57))) 5),
    (none, some 8, .pick (.tmp 5) (.tmp 7) (.const (.bool false))),
    (none, some 2, .assign (.tmp 8))] env H (kont C1 none Tryz.f48 K (some [2]) D) :=
  runL_flatE rfl (by kernel_rfl) (by kernel_rfl) (by kernel_rfl) (by kernel_rfl)
theorem FIN48 {env : Env} {H : Heap} : finishV Tryz.prog Tryz.f48 env H = some ((env 2), H) := by kernel_rfl
theorem KL48_0 : keepLOf Tryz.f48 0 = some [0] := by kernel_rfl
theorem KL48_1 : keepLOf Tryz.f48 1 = some [0] := by kernel_rfl
-- 27 raddle/syntax.Name
noncomputable def r27_0 : Array Oper := regionOf Tryz.f27.body 0
noncomputable def r27_1 : Array Oper := regionOf Tryz.f27.body 1
noncomputable def r27_2 : Array Oper := regionOf Tryz.f27.body 2
noncomputable def r27_3 : Array Oper := regionOf Tryz.f27.body 3
noncomputable def r27_4 : Array Oper := regionOf Tryz.f27.body 4
noncomputable def r27_5 : Array Oper := regionOf Tryz.f27.body 5
noncomputable def r27_6 : Array Oper := regionOf Tryz.f27.body 6
noncomputable def r27_7 : Array Oper := regionOf Tryz.f27.body 7
noncomputable def l27_0 : Code := (.seq (.region 2 r27_2 false) (.seq (.cond (.tmp 7) .skip (.exit 0)) (.seq (.block 1 (.seq (.region 3 r27_3 false) (.seq (.region 4 r27_4 false) (.cond (.tmp 24) (.seq (.region 5 r27_5 false) .ret) .skip)))) (.region 6 r27_6 false))))
--LOOP 0 2
noncomputable def c27_1 : Code := (.seq (.region 7 r27_7 false) .ret)
--CONT 1 7
theorem Ul27_0 {ro : Option Nat} {fn : Func} {K : List Item} {env : Env} {D : List DV} {H : Heap} : runL C1 ro fn (.code l27_0 :: K) env D H = runL C1 ro fn (.code (.seq (.region 2 r27_2 false) (.seq (.cond (.tmp 7) .skip (.exit 0)) (.seq (.block 1 (.seq (.region 3 r27_3 false) (.seq (.region 4 r27_4 false) (.cond (.tmp 24) (.seq (.region 5 r27_5 false) .ret) .skip)))) (.region 6 r27_6 false)))) :: K) env D H := rfl
theorem Uc27_1 {ro : Option Nat} {fn : Func} {K : List Item} {env : Env} {D : List DV} {H : Heap} : runL C1 ro fn (.code c27_1 :: K) env D H = runL C1 ro fn (.code (.seq (.region 7 r27_7 false) .ret) :: K) env D H := rfl
noncomputable def b27 : Code := (.seq (.region 0 r27_0 false) (.seq (.seq (.region 1 r27_1 false) (.block 0 (.loop l27_0))) c27_1))
theorem f27_body : Tryz.f27.body = some b27 := by kernel_rfl
theorem R27_0 {K : List Item} {env : Env} {D : List DV} {H : Heap} : runL C1 none Tryz.f27 (.code (.region 0 r27_0 false) :: K) env D H = flatK Tryz.prog (callL C1) [(none, some 2, .assign (.const (.bool false)))] env H (kont C1 none Tryz.f27 K (some [0]) D) :=
  runL_flatE rfl (by kernel_rfl) (by kernel_rfl) (by kernel_rfl) (by kernel_rfl)
theorem R27_1 {K : List Item} {env : Env} {D : List DV} {H : Heap} : runL C1 none Tryz.f27 (.code (.region 1 r27_1 false) :: K) env D H = flatK Tryz.prog (callL C1) [(none, some 4, .move (.tmp 0)),
    (none, some 5, .call ⟨(.builtin .len), #[(.tmp 4)], #[9]⟩),
    (none, some 6, .move (.const (.int .i64 (0))))] env H (kont C1 none Tryz.f27 K (some [0, 5, 6]) D) :=
  runL_flatE rfl (by kernel_rfl) (by kernel_rfl) (by kernel_rfl) (by kernel_rfl)
theorem R27_2 {K : List Item} {env : Env} {D : List DV} {H : Heap} : runL C1 none Tryz.f27 (.code (.region 2 r27_2 false) :: K) env D H = flatK Tryz.prog (callL C1) [(none, some 7, .binOp .lss 3 (.tmp 6) (.tmp 5) 3)] env H (kont C1 none Tryz.f27 K (some [0, 5, 6, 7]) D) :=
  runL_flatE rfl (by kernel_rfl) (by kernel_rfl) (by kernel_rfl) (by kernel_rfl)
theorem R27_3 {K : List Item} {env : Env} {D : List DV} {H : Heap} : runL C1 none Tryz.f27 (.code (.region 3 r27_3 false) :: K) env D H = flatK Tryz.prog (callL C1) [(none, some 8, .move (.tmp 6)),
    (none, some 3, .assign (.tmp 8))] env H (kont C1 none Tryz.f27 K (some [0, 3, 5, 6]) D) :=
  runL_flatE rfl (by kernel_rfl) (by kernel_rfl) (by kernel_rfl) (by kernel_rfl)
theorem R27_4 {K : List Item} {env : Env} {D : List DV} {H : Heap} : runL C1 none Tryz.f27 (.code (.region 4 r27_4 false) :: K) env D H = flatK Tryz.prog (callL C1) [(none, some 9, .move (.tmp 0)),
    (none, some 10, .move (.tmp 3)),
    (none, some 11, .index 9 (.tmp 9) (.tmp 10)),
    (none, some 12, .call ⟨(.value (.func 47)), #[(.tmp 11)], #[5]⟩),
    (none, some 13, .unOp .not 4 (.tmp 12)),
    (none, some 14, .move (.tmp 13)),
    (some (some 14, true), some 15, .move (.tmp 3)),
    (some (some 14, true), some 16, .binOp .eql 3 (.tmp 15) (.const (.int .i64 (0))) 3),
    (some (some 14, true), some 17, .move (.tmp 16)),
    (some (some 17, false), some 18, .move (.tmp 0)),
    (some (some 17, false), some 19, .move (.tmp 3)),
    (some (some 17, false), some 20, .index 9 (.tmp 18) (.tmp 19)),
    (some (some 17, false), some 21, .call ⟨(.value (.func 48)), #[(.tmp 20)], #[5]⟩),
    (some (some 17, false), some 22, .unOp .not 4 (.tmp 21)),
    (some (some 14, true), some 23, .pick (.tmp 17) (.const (.bool true)) (.tmp 22)),
    (none, some 24, .pick (.tmp 14) (.tmp 23) (.const (.bool false)))] env H (kont C1 none Tryz.f27 K (some [0, 5, 6, 24]) D) :=
  runL_flatE rfl (by kernel_rfl) (by kernel_rfl) (by kernel_rfl) (by kernel_rfl)
theorem R27_5 {K : List Item} {env : Env} {D : List DV} {H : Heap} : runL C1 none Tryz.f27 (.code (.region 5 r27_5 false) :: K) env D H = flatK Tryz.prog (callL C1) [(none, some 2, .assign (.const (.bool false)))] env H (kont C1 none Tryz.f27 K (some [2]) D) :=
  runL_flatE rfl (by kernel_rfl) (by kernel_rfl) (by kernel_rfl) (by kernel_rfl)
theorem R27_6 {K : List Item} {env : Env} {D : List DV} {H : Heap} : runL C1 none Tryz.f27 (.code (.region 6 r27_6 false) :: K) env D H = flatK Tryz.prog (callL C1) [(none, some 25, .binOp .add 3 (.tmp 6) (.const (.int .i64 (1))) 3),
    (none, some 6, .move (.tmp 25))] env H (kont C1 none Tryz.f27 K (some [0, 5, 6]) D) :=
  runL_flatE rfl (by kernel_rfl) (by kernel_rfl) (by kernel_rfl) (by kernel_rfl)
theorem R27_7 {K : List Item} {env : Env} {D : List DV} {H : Heap} : runL C1 none Tryz.f27 (.code (.region 7 r27_7 false) :: K) env D H = flatK Tryz.prog (callL C1) [(none, some 26, .move (.tmp 0)),
    (none, some 27, .call ⟨(.builtin .len), #[(.tmp 26)], #[9]⟩),
    (none, some 28, .binOp .geq 3 (.tmp 27) (.const (.int .i64 (1))) 3),
    (none, some 29, .move (.tmp 28)),
    (some (some 29, true), some 30, .move (.tmp 0)),
    (some (some 29, true), some 31, .call ⟨(.builtin .len), #[(.tmp 30)], #[9]⟩),
    (some (some 29, true), some 32, .binOp .leq 3 (.tmp 31) (.const (.int .i64 (32))) 3),
    (none, some 33, .pick (.tmp 29) (.tmp 32) (.const (.bool false))),
    (none, some 2, .assign (.tmp 33))] env H (kont C1 none Tryz.f27 K (some [2]) D) :=
  runL_flatE rfl (by kernel_rfl) (by kernel_rfl) (by kernel_rfl) (by kernel_rfl)
theorem FIN27 {env : Env} {H : Heap} : finishV Tryz.prog Tryz.f27 env H = some ((env 2), H) := by kernel_rfl
theorem KL27_0 : keepLOf Tryz.f27 0 = some [0] := by kernel_rfl
theorem KL27_1 : keepLOf Tryz.f27 1 = some [0] := by kernel_rfl
theorem KL27_2 : keepLOf Tryz.f27 2 = some [0, 5, 6] := by kernel_rfl
theorem KL27_3 : keepLOf Tryz.f27 3 = some [0, 5, 6] := by kernel_rfl
theorem KL27_4 : keepLOf Tryz.f27 4 = some [0, 3, 5, 6] := by kernel_rfl
theorem KL27_5 : keepLOf Tryz.f27 5 = some [] := by kernel_rfl
theorem KL27_6 : keepLOf Tryz.f27 6 = some [0, 5, 6] := by kernel_rfl
theorem KL27_7 : keepLOf Tryz.f27 7 = some [0] := by kernel_rfl
theorem FRC27_1 : firstReg c27_1 = some 7 := by kernel_rfl
theorem FR27_0 : firstReg l27_0 = some 2 := by kernel_rfl
theorem LH27_0 {K : List Item} {env : Env} {D : List DV} {H : Heap} : runL C1 none Tryz.f27 (.code (.loop l27_0) :: K) env D H = runL C1 none Tryz.f27 (.inLoop l27_0 :: K) (E (keepE env [0, 5, 6])) D H := runL_loopE (l := [0, 5, 6]) (by kernel_rfl)
theorem LI27_0 {K : List Item} {env : Env} {D : List DV} {H : Heap} : runL C1 none Tryz.f27 (.inLoop l27_0 :: K) env D H = runL C1 none Tryz.f27 (.code (.seq (.region 2 r27_2 false) (.seq (.cond (.tmp 7) .skip (.exit 0)) (.seq (.block 1 (.seq (.region 3 r27_3 false) (.seq (.region 4 r27_4 false) (.cond (.tmp 24) (.seq (.region 5 r27_5 false) .ret) .skip)))) (.region 6 r27_6 false)))) :: .inLoop l27_0 :: K) (E (keepE env [0, 5, 6])) D H := runL_inLoopE (l := [0, 5, 6]) (by kernel_rfl)
end Go.Proofs.YthcpmjljdncigaaGreatDoor
