/- Sorting ints, dropping repetitions. -/
import Derived.Test.YtibgbapeblicjaaXa
import Derived.Test.YtibgbapeblicjaaXb
set_option linter.unusedVariables false
namespace Go.Proofs.Ytibgbapeblicjaa
open Go
set_option maxRecDepth 100000
/- cmp.Less[int] -/
def S100 (a0 a1 : Value) (I : Imm) (H : PH) (R : KV) : Prop :=
  wCall PP (vf 107) [a0] I H fun t6 I H =>
  wGuard t6 true (fun k => k a1 I H) (fun t8 I H =>
  wGuard t6 true (fun k => wCall PP (vf 107) [t8] I H k) (fun t9 I H =>
  wGuard t6 true (fun k => wPure PP (Op.unary .not t9) fun v => k v I H) (fun t10 I H =>
  wPure PP (semPick t6 t10 (vb false)) fun t11 =>
  wGuard t11 false (fun k => k a0 I H) (fun t13 I H =>
  wGuard t11 false (fun k => k a1 I H) (fun t14 I H =>
  wGuard t11 false (fun k => wPure PP (semBin .lss 3 false false t13 t14) fun v => k v I H) (fun t15 I H =>
  wPure PP (semPick t11 (vb true) t15) fun t16 =>
  R t16 I H) I H) I H) I H) I H) I H) I H
theorem S100_eq (a0 a1 : Value) (I : Imm) (H : PH) (R : KV) : WF PP [] Try.f100 [a0, a1] I H R = S100 a0 a1 I H R := by kernel_rfl
theorem S100_ok {a0 a1 : Value} {I : Imm} {H : PH} {R : KV} (h : S100 a0 a1 I H R) : CallA PP 100 [a0, a1] I H R :=
  WF.ok (P := PP) (f := 100) (fn := Try.f100) (ord := []) (args := [a0, a1]) follows Try.func100 (by kernel_rfl) (by kernel_rfl) (by kernel_rfl) ((S100_eq a0 a1 I H R).mpr h)

/- slices.insertionSortOrdered[int] -/
def S94 (a0 a1 a2 : Value) (I : Imm) (H : PH) (R : KV) : Prop :=
  wPure PP (semBin .add 3 false true a1 (vi 1)) fun t9 =>
  wJ (fun J =>
    wLoop (fun kc vs_1 I H =>
      wPure PP (semBin .lss 3 false false (nth vs_1 40) a2) fun t12 =>
      wIf t12 (
        wJ (fun J_1 =>
          wJ (fun J_2 =>
            wLoop (fun kc_1 vs_4 I H =>
              wKeep H fun Hs Ha =>
              wPure PP (semBin .gtr 3 false false (nth vs_4 33) a1) fun t18 =>
              wGuardD t18 true (fun k => k a0 I Hs Ha) (fun t20 I Hs Ha =>
              wGuardD t18 true (fun k => k (nth vs_4 33) I Hs Ha) (fun t21 I Hs Ha =>
              wGuardD t18 true (fun k => wPure PP (Instr.indexAt 22 t20 t21) fun v => k v I Hs Ha) (fun t22 I Hs Ha =>
              wGuardD t18 true (fun k => k a0 I Hs Ha) (fun t24 I Hs Ha =>
              wGuardD t18 true (fun k => k (nth vs_4 33) I Hs Ha) (fun t25 I Hs Ha =>
              wGuardD t18 true (fun k => wPure PP (semBin .sub 3 false true t25 (vi 1)) fun v => k v I Hs Ha) (fun t26 I Hs Ha =>
              wGuardD t18 true (fun k => wPure PP (Instr.indexAt 22 t24 t26) fun v => k v I Hs Ha) (fun t27 I Hs Ha =>
              wGuardD t18 true (fun k => wRead PP (Instr.loadAt 3 t22) I Hs fun v => k v I Hs Ha) (fun t23 I Hs Ha =>
              wGuardD t18 true (fun k => wRead PP (Instr.loadAt 3 t27) I Hs fun v => k v I Hs Ha) (fun t28 I Hs Ha =>
              wGuardD t18 true (fun k => wCallQ PP (vf 100) [t23, t28] I Hs Ha fun v I Ha => k v I Hs Ha) (fun t29 I Hs Ha =>
              wPure PP (semPick t18 t29 (vb false)) fun t30 =>
              wIn I (join Hs Ha) fun I H =>
              wIf t30 (
                wJ (fun J_3 =>
                  wKeep H fun Hs Ha =>
                  wPure PP (semBin .sub 3 false true (nth vs_4 33) (vi 1)) fun t37 =>
                  wPure PP (semBin .sub 3 false true (nth vs_4 33) (vi 1)) fun t40 =>
                  wPure PP (Instr.indexAt 22 a0 t40) fun t41 =>
                  wPure PP (Instr.indexAt 22 a0 (nth vs_4 33)) fun t45 =>
                  wRead PP (Instr.loadAt 3 t41) I (join Hs Ha) fun t42 =>
                  wRead PP (Instr.loadAt 3 t45) I (join Hs Ha) fun t46 =>
                  wPure PP (Instr.indexAt 22 a0 (nth vs_4 33)) fun t47 =>
                  wActQ PP (Instr.storeAt 3 t47 t42) I Hs Ha fun _ I Ha =>
                  wPure PP (Instr.indexAt 22 a0 t37) fun t48 =>
                  wActQ PP (Instr.storeAt 3 t48 t46) I Hs Ha fun _ I Ha =>
                  wIn I (join Hs Ha) fun I H =>
                  J_3 [a0, (nth vs_4 33), a0, (nth vs_4 33), t37, a0, (nth vs_4 33), t40, t41, t42, a0, (nth vs_4 33), t45, t46, t47, t48] I H)
                (fun vs_5 I H =>
                wPure PP (semBin .sub 3 false true (nth vs_4 33) (vi 1)) fun t32 =>
                kc_1 [(nth vs_4 33), a1, t18, t18, t20, t21, t22, t23, t24, t25, t26, t27, t28, t29, t30, (nth vs_5 0), (nth vs_5 1), (nth vs_5 2), (nth vs_5 3), (nth vs_5 4), (nth vs_5 5), (nth vs_5 6), (nth vs_5 7), (nth vs_5 8), (nth vs_5 9), (nth vs_5 10), (nth vs_5 11), (nth vs_5 12), (nth vs_5 13), (nth vs_5 14), (nth vs_5 15), (nth vs_4 33), t32, t32] I H)) (
                J_2 [(nth vs_4 33), a1, t18, t18, t20, t21, t22, t23, t24, t25, t26, t27, t28, t29, t30, (nth vs_4 15), (nth vs_4 16), (nth vs_4 17), (nth vs_4 18), (nth vs_4 19), (nth vs_4 20), (nth vs_4 21), (nth vs_4 22), (nth vs_4 23), (nth vs_4 24), (nth vs_4 25), (nth vs_4 26), (nth vs_4 27), (nth vs_4 28), (nth vs_4 29), (nth vs_4 30), (nth vs_4 31), (nth vs_4 32), (nth vs_4 33)] I H)) I Hs Ha) I Hs Ha) I Hs Ha) I Hs Ha) I Hs Ha) I Hs Ha) I Hs Ha) I Hs Ha) I Hs Ha) I Hs Ha)
              [(nth vs_1 5), (nth vs_1 6), (nth vs_1 7), (nth vs_1 8), (nth vs_1 9), (nth vs_1 10), (nth vs_1 11), (nth vs_1 12), (nth vs_1 13), (nth vs_1 14), (nth vs_1 15), (nth vs_1 16), (nth vs_1 17), (nth vs_1 18), (nth vs_1 19), (nth vs_1 20), (nth vs_1 21), (nth vs_1 22), (nth vs_1 23), (nth vs_1 24), (nth vs_1 25), (nth vs_1 26), (nth vs_1 27), (nth vs_1 28), (nth vs_1 29), (nth vs_1 30), (nth vs_1 31), (nth vs_1 32), (nth vs_1 33), (nth vs_1 34), (nth vs_1 35), (nth vs_1 36), (nth vs_1 37), (nth vs_1 40)] I H)
          (fun vs_3 I H =>
          J_1 [(nth vs_1 40), (nth vs_3 33), (nth vs_3 0), (nth vs_3 1), (nth vs_3 2), (nth vs_3 3), (nth vs_3 4), (nth vs_3 5), (nth vs_3 6), (nth vs_3 7), (nth vs_3 8), (nth vs_3 9), (nth vs_3 10), (nth vs_3 11), (nth vs_3 12), (nth vs_3 13), (nth vs_3 14), (nth vs_3 15), (nth vs_3 16), (nth vs_3 17), (nth vs_3 18), (nth vs_3 19), (nth vs_3 20), (nth vs_3 21), (nth vs_3 22), (nth vs_3 23), (nth vs_3 24), (nth vs_3 25), (nth vs_3 26), (nth vs_3 27), (nth vs_3 28), (nth vs_3 29), (nth vs_3 30), (nth vs_3 31), (nth vs_3 32)] I H))
        (fun vs_2 I H =>
        wPure PP (semBin .add 3 false true (nth vs_1 40) (vi 1)) fun t14 =>
        kc [(nth vs_1 40), a2, t12, (nth vs_2 0), (nth vs_2 1), (nth vs_2 2), (nth vs_2 3), (nth vs_2 4), (nth vs_2 5), (nth vs_2 6), (nth vs_2 7), (nth vs_2 8), (nth vs_2 9), (nth vs_2 10), (nth vs_2 11), (nth vs_2 12), (nth vs_2 13), (nth vs_2 14), (nth vs_2 15), (nth vs_2 16), (nth vs_2 17), (nth vs_2 18), (nth vs_2 19), (nth vs_2 20), (nth vs_2 21), (nth vs_2 22), (nth vs_2 23), (nth vs_2 24), (nth vs_2 25), (nth vs_2 26), (nth vs_2 27), (nth vs_2 28), (nth vs_2 29), (nth vs_2 30), (nth vs_2 31), (nth vs_2 32), (nth vs_2 33), (nth vs_2 34), (nth vs_1 40), t14, t14] I H)) (
        J [(nth vs_1 40), a2, t12, (nth vs_1 3), (nth vs_1 4), (nth vs_1 5), (nth vs_1 6), (nth vs_1 7), (nth vs_1 8), (nth vs_1 9), (nth vs_1 10), (nth vs_1 11), (nth vs_1 12), (nth vs_1 13), (nth vs_1 14), (nth vs_1 15), (nth vs_1 16), (nth vs_1 17), (nth vs_1 18), (nth vs_1 19), (nth vs_1 20), (nth vs_1 21), (nth vs_1 22), (nth vs_1 23), (nth vs_1 24), (nth vs_1 25), (nth vs_1 26), (nth vs_1 27), (nth vs_1 28), (nth vs_1 29), (nth vs_1 30), (nth vs_1 31), (nth vs_1 32), (nth vs_1 33), (nth vs_1 34), (nth vs_1 35), (nth vs_1 36), (nth vs_1 37), (nth vs_1 38), (nth vs_1 39), (nth vs_1 40)] I H))
      [undef, undef, undef, undef, undef, undef, undef, undef, undef, undef, undef, undef, undef, undef, undef, undef, undef, undef, undef, undef, undef, undef, undef, undef, undef, undef, undef, undef, undef, undef, undef, undef, undef, undef, undef, undef, undef, undef, undef, undef, t9] I H)
  (fun vs I H =>
  R (.tuple #[]) I H)
theorem S94_eq (a0 a1 a2 : Value) (I : Imm) (H : PH) (R : KV) : WF PP [[], [], [], [], [0, 1, 2, 3, 4, 5, 6, 8, 9, 10, 11, 7, 12, 13, 14], [], [0, 1, 2, 3, 4, 5, 6, 7, 8, 10, 11, 12, 1009, 1013, 14, 15, 16, 17]] Try.f94 [a0, a1, a2] I H R = S94 a0 a1 a2 I H R := by kernel_rfl
theorem S94_ok {a0 a1 a2 : Value} {I : Imm} {H : PH} {R : KV} (h : S94 a0 a1 a2 I H R) : CallA PP 94 [a0, a1, a2] I H R :=
  WF.ok (P := PP) (f := 94) (fn := Try.f94) (ord := [[], [], [], [], [0, 1, 2, 3, 4, 5, 6, 8, 9, 10, 11, 7, 12, 13, 14], [], [0, 1, 2, 3, 4, 5, 6, 7, 8, 10, 11, 12, 1009, 1013, 14, 15, 16, 17]]) (args := [a0, a1, a2]) follows Try.func94 (by kernel_rfl) (by kernel_rfl) (by kernel_rfl) ((S94_eq a0 a1 a2 I H R).mpr h)

/- slices.pdqsortOrdered[int] -/
def S70 (a0 a1 a2 a3 : Value) (I : Imm) (H : PH) (R : KV) : Prop :=
  wJ (fun J =>
    wLoop (fun kc vs_1 I H =>
      wJ (fun J_1 =>
        wPure PP (semBin .sub 3 false false (nth vs_1 128) (nth vs_1 80)) fun t21 =>
        wPure PP (semBin .leq 3 false true t21 (vi 12)) fun t23 =>
        wIf t23 (
          wCall PP (vf 94) [a0, (nth vs_1 80), (nth vs_1 128)] I H fun t27 I H =>
          R (.tuple #[]) I H) (
        wPure PP (semBin .eql 3 false true (nth vs_1 24) (vi 0)) fun t29 =>
        wIf t29 (
          wCall PP (vf 95) [a0, (nth vs_1 80), (nth vs_1 128)] I H fun t33 I H =>
          R (.tuple #[]) I H) (
        wPure PP (Op.unary .not (nth vs_1 110)) fun t35 =>
        wJ (fun J_2 =>
          wIf t35 (
            wCall PP (vf 96) [a0, (nth vs_1 80), (nth vs_1 128)] I H fun t39 I H =>
            wPure PP (semBin .sub 3 false true (nth vs_1 24) (vi 1)) fun t41 =>
            J_2 [a0, (nth vs_1 80), (nth vs_1 128), t39, (nth vs_1 24), t41, t41] I H) (
            J_2 [(nth vs_1 18), (nth vs_1 19), (nth vs_1 20), (nth vs_1 21), (nth vs_1 22), (nth vs_1 23), (nth vs_1 24)] I H))
        (fun vs_3 I H =>
        wCall PP (vf 97) [a0, (nth vs_1 80), (nth vs_1 128)] I H fun t46 I H =>
        wPure PP (Instr.extract t46 0) fun t47 =>
        wPure PP (Instr.extract t46 1) fun t48 =>
        wPure PP (semBin .eql 133 false true t48 (vi 2)) fun t50 =>
        wJ (fun J_3 =>
          wIf t50 (
            wCall PP (vf 98) [a0, (nth vs_1 80), (nth vs_1 128)] I H fun t54 I H =>
            wPure PP (semBin .sub 3 false true (nth vs_1 128) (vi 1)) fun t56 =>
            wPure PP (semBin .sub 3 false false t47 (nth vs_1 80)) fun t59 =>
            wPure PP (semBin .sub 3 false false t56 t59) fun t60 =>
            J_3 [a0, (nth vs_1 80), (nth vs_1 128), t54, (nth vs_1 128), t56, t47, (nth vs_1 80), t59, t60, t60, (vi 1)] I H) (
            J_3 [(nth vs_1 36), (nth vs_1 37), (nth vs_1 38), (nth vs_1 39), (nth vs_1 40), (nth vs_1 41), (nth vs_1 42), (nth vs_1 43), (nth vs_1 44), (nth vs_1 45), t47, t48] I H))
        (fun vs_4 I H =>
        wGuard (nth vs_1 110) true (fun k => k (nth vs_1 92) I H) (fun t63 I H =>
        wPure PP (semPick (nth vs_1 110) t63 (vb false)) fun t64 =>
        wGuard t64 true (fun k => k (nth vs_4 11) I H) (fun t66 I H =>
        wGuard t64 true (fun k => wPure PP (semBin .eql 133 false true t66 (vi 1)) fun v => k v I H) (fun t67 I H =>
        wPure PP (semPick t64 t67 (vb false)) fun t68 =>
        wJ (fun J_4 =>
          wIf t68 (
            wCall PP (vf 99) [a0, (nth vs_1 80), (nth vs_1 128)] I H fun t72 I H =>
            wIf t72 (
              R (.tuple #[]) I H) (
            J_4 [a0, (nth vs_1 80), (nth vs_1 128), t72] I H)) (
            J_4 [(nth vs_1 54), (nth vs_1 55), (nth vs_1 56), (nth vs_1 57)] I H))
        (fun vs_5 I H =>
        wKeep H fun Hs Ha =>
        wPure PP (semBin .gtr 3 false true (nth vs_1 80) (vi 0)) fun t74 =>
        wGuardD t74 true (fun k => k a0 I Hs Ha) (fun t76 I Hs Ha =>
        wGuardD t74 true (fun k => k (nth vs_1 80) I Hs Ha) (fun t77 I Hs Ha =>
        wGuardD t74 true (fun k => wPure PP (semBin .sub 3 false true t77 (vi 1)) fun v => k v I Hs Ha) (fun t78 I Hs Ha =>
        wGuardD t74 true (fun k => wPure PP (Instr.indexAt 22 t76 t78) fun v => k v I Hs Ha) (fun t79 I Hs Ha =>
        wGuardD t74 true (fun k => k a0 I Hs Ha) (fun t81 I Hs Ha =>
        wGuardD t74 true (fun k => k (nth vs_4 10) I Hs Ha) (fun t82 I Hs Ha =>
        wGuardD t74 true (fun k => wPure PP (Instr.indexAt 22 t81 t82) fun v => k v I Hs Ha) (fun t83 I Hs Ha =>
        wGuardD t74 true (fun k => wRead PP (Instr.loadAt 3 t79) I Hs fun v => k v I Hs Ha) (fun t80 I Hs Ha =>
        wGuardD t74 true (fun k => wRead PP (Instr.loadAt 3 t83) I Hs fun v => k v I Hs Ha) (fun t84 I Hs Ha =>
        wGuardD t74 true (fun k => wCallQ PP (vf 100) [t80, t84] I Hs Ha fun v I Ha => k v I Hs Ha) (fun t85 I Hs Ha =>
        wGuardD t74 true (fun k => wPure PP (Op.unary .not t85) fun v => k v I Hs Ha) (fun t86 I Hs Ha =>
        wPure PP (semPick t74 t86 (vb false)) fun t87 =>
        wIn I (join Hs Ha) fun I H =>
        wIf t87 (
          wCall PP (vf 101) [a0, (nth vs_1 80), (nth vs_1 128), (nth vs_4 10)] I H fun t92 I H =>
          J_1 [(nth vs_1 128), (nth vs_1 80), t21, t21, t21, t23, (nth vs_1 6), (nth vs_1 7), (nth vs_1 8), (nth vs_1 9), (nth vs_1 24), t29, (nth vs_1 12), (nth vs_1 13), (nth vs_1 14), (nth vs_1 15), (nth vs_1 110), t35, (nth vs_3 0), (nth vs_3 1), (nth vs_3 2), (nth vs_3 3), (nth vs_3 4), (nth vs_3 5), (nth vs_3 6), a0, (nth vs_1 80), (nth vs_1 128), t46, t46, t47, t48, (nth vs_4 10), (nth vs_4 11), t48, t50, (nth vs_4 0), (nth vs_4 1), (nth vs_4 2), (nth vs_4 3), (nth vs_4 4), (nth vs_4 5), (nth vs_4 6), (nth vs_4 7), (nth vs_4 8), (nth vs_4 9), (nth vs_1 110), (nth vs_1 110), t63, t64, t64, t66, t67, t68, (nth vs_5 0), (nth vs_5 1), (nth vs_5 2), (nth vs_5 3), (nth vs_1 80), t74, t74, t76, t77, t78, t79, t80, t81, t82, t83, t84, t85, t86, t87, a0, (nth vs_1 80), (nth vs_1 128), (nth vs_4 10), t92, t92, t92, t92, (nth vs_1 81), (nth vs_1 82), (nth vs_1 83), (nth vs_1 84), (nth vs_1 85), (nth vs_1 86), (nth vs_1 87), (nth vs_1 88), (nth vs_1 89), (nth vs_1 90), (nth vs_1 91), (nth vs_1 92), (nth vs_1 93), (nth vs_1 94), (nth vs_1 95), (nth vs_1 96), (nth vs_1 97), (nth vs_1 98), (nth vs_1 99), (nth vs_1 100), (nth vs_1 101), (nth vs_1 102), (nth vs_1 103), (nth vs_1 104), (nth vs_1 105), (nth vs_1 106), (nth vs_1 107), (nth vs_1 108), (nth vs_1 109), (nth vs_1 110), (nth vs_1 111), (nth vs_1 112), (nth vs_1 113), (nth vs_1 114), (nth vs_1 115), (nth vs_1 116), (nth vs_1 117), (nth vs_1 118), (nth vs_1 119), (nth vs_1 120), (nth vs_1 121), (nth vs_1 122), (nth vs_1 123), (nth vs_1 124), (nth vs_1 125), (nth vs_1 126), (nth vs_1 127), (nth vs_1 128)] I H) (
        wCall PP (vf 102) [a0, (nth vs_1 80), (nth vs_1 128), (nth vs_4 10)] I H fun t99 I H =>
        wPure PP (Instr.extract t99 0) fun t100 =>
        wPure PP (Instr.extract t99 1) fun t101 =>
        wPure PP (semBin .sub 3 false false t100 (nth vs_1 80)) fun t105 =>
        wPure PP (semBin .sub 3 false false (nth vs_1 128) t100) fun t108 =>
        wPure PP (semBin .quo 3 false true t21 (vi 8)) fun t110 =>
        wPure PP (semBin .lss 3 false false t105 t108) fun t113 =>
        wJ (fun J_5 =>
          wIf t113 (
            wPure PP (semBin .geq 3 false false t105 t110) fun t116 =>
            wCall PP (vf 70) [a0, (nth vs_1 80), t100, (nth vs_3 6)] I H fun t121 I H =>
            wPure PP (semBin .add 3 false true t100 (vi 1)) fun t123 =>
            J_5 [t105, t110, t116, t116, a0, (nth vs_1 80), t100, (nth vs_3 6), t121, t100, t123, t123, (nth vs_1 118), (nth vs_1 119), (nth vs_1 120), (nth vs_1 121), (nth vs_1 122), (nth vs_1 123), (nth vs_1 124), (nth vs_1 125), (nth vs_1 126), (nth vs_1 127), (nth vs_1 128)] I H) (
            wPure PP (semBin .geq 3 false false t108 t110) fun t126 =>
            wPure PP (semBin .add 3 false true t100 (vi 1)) fun t129 =>
            wCall PP (vf 70) [a0, t129, (nth vs_1 128), (nth vs_3 6)] I H fun t132 I H =>
            J_5 [(nth vs_1 107), (nth vs_1 108), (nth vs_1 109), t126, (nth vs_1 111), (nth vs_1 112), (nth vs_1 113), (nth vs_1 114), (nth vs_1 115), (nth vs_1 116), (nth vs_1 117), (nth vs_1 80), t108, t110, t126, a0, t100, t129, (nth vs_1 128), (nth vs_3 6), t132, t100, t100] I H))
        (fun vs_6 I H =>
        J_1 [(nth vs_1 128), (nth vs_1 80), t21, t21, t21, t23, (nth vs_1 6), (nth vs_1 7), (nth vs_1 8), (nth vs_1 9), (nth vs_1 24), t29, (nth vs_1 12), (nth vs_1 13), (nth vs_1 14), (nth vs_1 15), (nth vs_1 110), t35, (nth vs_3 0), (nth vs_3 1), (nth vs_3 2), (nth vs_3 3), (nth vs_3 4), (nth vs_3 5), (nth vs_3 6), a0, (nth vs_1 80), (nth vs_1 128), t46, t46, t47, t48, (nth vs_4 10), (nth vs_4 11), t48, t50, (nth vs_4 0), (nth vs_4 1), (nth vs_4 2), (nth vs_4 3), (nth vs_4 4), (nth vs_4 5), (nth vs_4 6), (nth vs_4 7), (nth vs_4 8), (nth vs_4 9), (nth vs_1 110), (nth vs_1 110), t63, t64, t64, t66, t67, t68, (nth vs_5 0), (nth vs_5 1), (nth vs_5 2), (nth vs_5 3), (nth vs_1 80), t74, t74, t76, t77, t78, t79, t80, t81, t82, t83, t84, t85, t86, t87, (nth vs_1 73), (nth vs_1 74), (nth vs_1 75), (nth vs_1 76), (nth vs_1 77), (nth vs_1 78), (nth vs_1 79), (nth vs_6 11), a0, (nth vs_1 80), (nth vs_1 128), (nth vs_4 10), t99, t99, t100, t101, t100, t101, t101, t101, t100, (nth vs_1 80), t105, (nth vs_1 128), t100, t108, t105, t108, t21, t110, t110, t105, t108, t113, (nth vs_6 0), (nth vs_6 1), (nth vs_6 2), (nth vs_6 3), (nth vs_6 4), (nth vs_6 5), (nth vs_6 6), (nth vs_6 7), (nth vs_6 8), (nth vs_6 9), (nth vs_6 10), (nth vs_6 12), (nth vs_6 13), (nth vs_6 14), (nth vs_6 15), (nth vs_6 16), (nth vs_6 17), (nth vs_6 18), (nth vs_6 19), (nth vs_6 20), (nth vs_6 21), (nth vs_6 22)] I H))) I Hs Ha) I Hs Ha) I Hs Ha) I Hs Ha) I Hs Ha) I Hs Ha) I Hs Ha) I Hs Ha) I Hs Ha) I Hs Ha) I Hs Ha)) I H) I H) I H)))))
      (fun vs_2 I H =>
      kc [(nth vs_2 0), (nth vs_2 1), (nth vs_2 2), (nth vs_2 3), (nth vs_2 4), (nth vs_2 5), (nth vs_2 6), (nth vs_2 7), (nth vs_2 8), (nth vs_2 9), (nth vs_2 10), (nth vs_2 11), (nth vs_2 12), (nth vs_2 13), (nth vs_2 14), (nth vs_2 15), (nth vs_2 16), (nth vs_2 17), (nth vs_2 18), (nth vs_2 19), (nth vs_2 20), (nth vs_2 21), (nth vs_2 22), (nth vs_2 23), (nth vs_2 24), (nth vs_2 25), (nth vs_2 26), (nth vs_2 27), (nth vs_2 28), (nth vs_2 29), (nth vs_2 30), (nth vs_2 31), (nth vs_2 32), (nth vs_2 33), (nth vs_2 34), (nth vs_2 35), (nth vs_2 36), (nth vs_2 37), (nth vs_2 38), (nth vs_2 39), (nth vs_2 40), (nth vs_2 41), (nth vs_2 42), (nth vs_2 43), (nth vs_2 44), (nth vs_2 45), (nth vs_2 46), (nth vs_2 47), (nth vs_2 48), (nth vs_2 49), (nth vs_2 50), (nth vs_2 51), (nth vs_2 52), (nth vs_2 53), (nth vs_2 54), (nth vs_2 55), (nth vs_2 56), (nth vs_2 57), (nth vs_2 58), (nth vs_2 59), (nth vs_2 60), (nth vs_2 61), (nth vs_2 62), (nth vs_2 63), (nth vs_2 64), (nth vs_2 65), (nth vs_2 66), (nth vs_2 67), (nth vs_2 68), (nth vs_2 69), (nth vs_2 70), (nth vs_2 71), (nth vs_2 72), (nth vs_2 73), (nth vs_2 74), (nth vs_2 75), (nth vs_2 76), (nth vs_2 77), (nth vs_2 78), (nth vs_2 79), (nth vs_2 80), (nth vs_2 81), (nth vs_2 82), (nth vs_2 83), (nth vs_2 84), (nth vs_2 85), (nth vs_2 86), (nth vs_2 87), (nth vs_2 88), (nth vs_2 89), (nth vs_2 90), (nth vs_2 91), (nth vs_2 92), (nth vs_2 93), (nth vs_2 94), (nth vs_2 95), (nth vs_2 96), (nth vs_2 97), (nth vs_2 98), (nth vs_2 99), (nth vs_2 100), (nth vs_2 101), (nth vs_2 102), (nth vs_2 103), (nth vs_2 104), (nth vs_2 105), (nth vs_2 106), (nth vs_2 107), (nth vs_2 108), (nth vs_2 109), (nth vs_2 110), (nth vs_2 111), (nth vs_2 112), (nth vs_2 113), (nth vs_2 114), (nth vs_2 115), (nth vs_2 116), (nth vs_2 117), (nth vs_2 118), (nth vs_2 119), (nth vs_2 120), (nth vs_2 121), (nth vs_2 122), (nth vs_2 123), (nth vs_2 124), (nth vs_2 125), (nth vs_2 126), (nth vs_2 127), (nth vs_2 128)] I H))
      [undef, undef, undef, undef, undef, undef, undef, undef, undef, undef, undef, undef, undef, undef, undef, undef, undef, undef, undef, undef, undef, undef, undef, undef, a3, undef, undef, undef, undef, undef, undef, undef, undef, undef, undef, undef, undef, undef, undef, undef, undef, undef, undef, undef, undef, undef, undef, undef, undef, undef, undef, undef, undef, undef, undef, undef, undef, undef, undef, undef, undef, undef, undef, undef, undef, undef, undef, undef, undef, undef, undef, undef, undef, undef, undef, undef, undef, undef, undef, undef, a1, undef, undef, undef, undef, undef, undef, undef, undef, undef, undef, undef, (vb true), undef, undef, undef, undef, undef, undef, undef, undef, undef, undef, undef, undef, undef, undef, undef, undef, undef, (vb true), undef, undef, undef, undef, undef, undef, undef, undef, undef, undef, undef, undef, undef, undef, undef, undef, undef, a2] I H)
  (fun vs I H =>
  R (.tuple #[]) I H)
theorem S70_eq (a0 a1 a2 a3 : Value) (I : Imm) (H : PH) (R : KV) : WF PP [[], [], [], [], [], [], [], [], [], [], [], [], [], [], [], [], [], [0, 1, 2, 3, 4, 5, 6, 8, 9, 10, 7, 11, 12, 13, 14]] Try.f70 [a0, a1, a2, a3] I H R = S70 a0 a1 a2 a3 I H R := by kernel_rfl
theorem S70_ok {a0 a1 a2 a3 : Value} {I : Imm} {H : PH} {R : KV} (h : S70 a0 a1 a2 a3 I H R) : CallA PP 70 [a0, a1, a2, a3] I H R :=
  WF.ok (P := PP) (f := 70) (fn := Try.f70) (ord := [[], [], [], [], [], [], [], [], [], [], [], [], [], [], [], [], [], [0, 1, 2, 3, 4, 5, 6, 8, 9, 10, 7, 11, 12, 13, 14]]) (args := [a0, a1, a2, a3]) follows Try.func70 (by kernel_rfl) (by kernel_rfl) (by kernel_rfl) ((S70_eq a0 a1 a2 a3 I H R).mpr h)

/- math/bits.Len64 -/
def S104 (a0 : Value) (I : Imm) (H : PH) (R : KV) : Prop :=
  wPure PP (semBin .geq 142 false true a0 (Value.int IntKind.u64 4294967296)) fun t4 =>
  wJ (fun J =>
    wIf t4 (
      wPure PP (semBin .shr 142 false true a0 (Value.int IntKind.u64 32)) fun t6 =>
      J [a0, t6, t6, (vi 32)] I H) (
      J [undef, undef, a0, (vi 0)] I H))
  (fun vs I H =>
  wPure PP (semBin .geq 142 false true (nth vs 2) (Value.int IntKind.u64 65536)) fun t8 =>
  wJ (fun J_1 =>
    wIf t8 (
      wPure PP (semBin .shr 142 false true (nth vs 2) (Value.int IntKind.u64 16)) fun t10 =>
      wPure PP (semBin .add 3 false true (nth vs 3) (vi 16)) fun t12 =>
      J_1 [(nth vs 2), t10, t10, (nth vs 3), t12, t12] I H) (
      J_1 [undef, undef, (nth vs 2), undef, undef, (nth vs 3)] I H))
  (fun vs_1 I H =>
  wPure PP (semBin .geq 142 false true (nth vs_1 2) (Value.int IntKind.u64 256)) fun t14 =>
  wJ (fun J_2 =>
    wIf t14 (
      wPure PP (semBin .shr 142 false true (nth vs_1 2) (Value.int IntKind.u64 8)) fun t16 =>
      wPure PP (semBin .add 3 false true (nth vs_1 5) (vi 8)) fun t18 =>
      J_2 [(nth vs_1 2), t16, t16, (nth vs_1 5), t18, t18] I H) (
      J_2 [undef, undef, (nth vs_1 2), undef, undef, (nth vs_1 5)] I H))
  (fun vs_2 I H =>
  wPure PP (convert 142 5 (nth vs_2 2)) fun t21 =>
  wPure PP (Instr.index 9 (Value.string { data := #[0, 1, 2, 2, 3, 3, 3, 3, 4, 4, 4, 4, 4, 4, 4, 4, 5, 5, 5, 5, 5, 5, 5, 5, 5, 5, 5, 5, 5, 5, 5, 5, 6, 6, 6, 6, 6, 6, 6, 6, 6, 6, 6, 6, 6, 6, 6, 6, 6, 6, 6, 6, 6, 6, 6, 6, 6, 6, 6, 6, 6, 6, 6, 6, 7, 7, 7, 7, 7, 7, 7, 7, 7, 7, 7, 7, 7, 7, 7, 7, 7, 7, 7, 7, 7, 7, 7, 7, 7, 7, 7, 7, 7, 7, 7, 7, 7, 7, 7, 7, 7, 7, 7, 7, 7, 7, 7, 7, 7, 7, 7, 7, 7, 7, 7, 7, 7, 7, 7, 7, 7, 7, 7, 7, 7, 7, 7, 7, 8, 8, 8, 8, 8, 8, 8, 8, 8, 8, 8, 8, 8, 8, 8, 8, 8, 8, 8, 8, 8, 8, 8, 8, 8, 8, 8, 8, 8, 8, 8, 8, 8, 8, 8, 8, 8, 8, 8, 8, 8, 8, 8, 8, 8, 8, 8, 8, 8, 8, 8, 8, 8, 8, 8, 8, 8, 8, 8, 8, 8, 8, 8, 8, 8, 8, 8, 8, 8, 8, 8, 8, 8, 8, 8, 8, 8, 8, 8, 8, 8, 8, 8, 8, 8, 8, 8, 8, 8, 8, 8, 8, 8, 8, 8, 8, 8, 8, 8, 8, 8, 8, 8, 8, 8, 8, 8, 8, 8, 8, 8, 8, 8, 8, 8, 8, 8, 8, 8, 8, 8, 8, 8, 8, 8, 8, 8, 8] }) t21) fun t22 =>
  wPure PP (convert 5 3 t22) fun t23 =>
  wPure PP (semBin .add 3 false false (nth vs_2 5) t23) fun t24 =>
  R t24 I H)))
theorem S104_eq (a0 : Value) (I : Imm) (H : PH) (R : KV) : WF PP [] Try.f104 [a0] I H R = S104 a0 I H R := by kernel_rfl
theorem S104_ok {a0 : Value} {I : Imm} {H : PH} {R : KV} (h : S104 a0 I H R) : CallA PP 104 [a0] I H R :=
  WF.ok (P := PP) (f := 104) (fn := Try.f104) (ord := []) (args := [a0]) follows Try.func104 (by kernel_rfl) (by kernel_rfl) (by kernel_rfl) ((S104_eq a0 I H R).mpr h)

/- math/bits.Len -/
def S71 (a0 : Value) (I : Imm) (H : PH) (R : KV) : Prop :=
  wIf (vb false) (
    wPure PP (convert 111 140 a0) fun t4 =>
    wCall PP (vf 103) [t4] I H fun t5 I H =>
    R t5 I H) (
  wCall PP (vf 104) [a0] I H fun t7 I H =>
  R t7 I H)
theorem S71_eq (a0 : Value) (I : Imm) (H : PH) (R : KV) : WF PP [] Try.f71 [a0] I H R = S71 a0 I H R := by kernel_rfl
theorem S71_ok {a0 : Value} {I : Imm} {H : PH} {R : KV} (h : S71 a0 I H R) : CallA PP 71 [a0] I H R :=
  WF.ok (P := PP) (f := 71) (fn := Try.f71) (ord := []) (args := [a0]) follows Try.func71 (by kernel_rfl) (by kernel_rfl) (by kernel_rfl) ((S71_eq a0 I H R).mpr h)

/- slices.Sort[[]int,int] -/
def S29 (a0 : Value) (I : Imm) (H : PH) (R : KV) : Prop :=
  wRead PP (Builtin.len_ #[22] 3 #[a0]) I H fun t4 =>
  wPure PP (convert 3 111 t4) fun t8 =>
  wCall PP (vf 71) [t8] I H fun t9 I H =>
  wCall PP (vf 70) [a0, (vi 0), t4, t9] I H fun t10 I H =>
  R (.tuple #[]) I H
theorem S29_eq (a0 : Value) (I : Imm) (H : PH) (R : KV) : WF PP [] Try.f29 [a0] I H R = S29 a0 I H R := by kernel_rfl
theorem S29_ok {a0 : Value} {I : Imm} {H : PH} {R : KV} (h : S29 a0 I H R) : CallA PP 29 [a0] I H R :=
  WF.ok (P := PP) (f := 29) (fn := Try.f29) (ord := []) (args := [a0]) follows Try.func29 (by kernel_rfl) (by kernel_rfl) (by kernel_rfl) ((S29_eq a0 I H R).mpr h)


theorem Less_spec (a b : Int) (I : Imm) (H : PH) : CallA PP 100 [vi a, vi b] I H (fun v I' H' => H' = H ∧ I' = I ∧ v = .bool (decide (a < b))) := by
  refine S100_ok ?_
  refine c_call ((isNaN_spec a I H).mono ?_); rintro _ I H - ⟨rfl, rfl, rfl⟩
  refine g_skip rfl (g_skip rfl (g_skip rfl (p_pick_f rfl ?_)))
  refine g_do rfl (g_do rfl (g_do rfl (p_gen (run_lss a b) ?_)))
  exact p_pick_f rfl ⟨rfl, rfl, rfl⟩

def bub : Nat → List Int → List Int
  | 0, l => l
  | j + 1, l => if l.getD (j + 1) 0 < l.getD j 0 then bub j ((l.set (j + 1) (l.getD j 0)).set j (l.getD (j + 1) 0)) else l
def isortN : Nat → Nat → List Int → List Int
  | 0, _, l => l
  | k + 1, i, l => isortN k (i + 1) (bub i l)
def isort (l : List Int) : List Int := isortN (l.length - 1) 1 l
theorem bub_len : ∀ (j : Nat) (l : List Int), (bub j l).length = l.length
  | 0, _ => rfl
  | j + 1, l => by unfold bub; split; rw [bub_len]; simp; rfl

theorem isort_spec {g cap : Nat} {l : List Int} {rest : List Value} {H0 : PH} (h0 : H0 g = none) (hl : l.length ≤ 1000000) (hc : l.length ≤ cap) (I : Imm) :
    CallA PP 94 [slv g 0 l.length cap, vi 0, vi l.length] I (upd H0 g (rowA enInt 3 l rest)) (fun v I' H' => H' = upd H0 g (rowA enInt 3 (isort l) rest) ∧ I' = I ∧ v = .tuple #[]) := by
  refine S94_ok ?_
  refine p_add (by omega) (by omega) ?_
  refine loop_inv (fun n vs I' H' => I' = I ∧ ∃ (i : Nat) (l' : List Int), nth vs 40 = vi i ∧ 1 ≤ i ∧ n = l.length - i ∧ l'.length = l.length ∧ H' = upd H0 g (rowA enInt 3 l' rest) ∧ isortN (l.length - i) i l' = isort l) (l.length - 1)
    ⟨rfl, 1, l, rfl, by omega, rfl, rfl, rfl, rfl⟩ ?_
  rintro n vs I _ k hk ⟨rfl, i, l', hi, hi1, hn, hl', rfl, hs⟩
  rw [hi]
  refine p_gen (run_lss _ _) ?_
  refine if_dec (fun h1 => ?_) (fun h1 => ?_)
  case refine_2 =>
    rw [show l.length - i = 0 from by omega] at hs
    exact ⟨by rw [show l' = isort l from hs], rfl, rfl⟩
  obtain ⟨m, hm⟩ : ∃ m, l.length - i = m + 1 := ⟨l.length - i - 1, by omega⟩
  rw [hm] at hs
  refine loop_inv (fun n vs I' H' => I' = I ∧ ∃ (l2 : List Int), nth vs 33 = vi n ∧ n ≤ i ∧ l2.length = l.length ∧ H' = upd H0 g (rowA enInt 3 l2 rest) ∧ bub n l2 = bub i l') i
    ⟨rfl, l', rfl, by omega, hl', rfl, rfl⟩ ?_
  rintro j vs2 I _ k2 hk2 ⟨rfl, l2, hj, hji, hl2, rfl, hb⟩
  rw [hj]
  have fin : ∀ vs', nth vs' 40 = vi (i + 1) → bub i l' = l2 → k vs' I (upd H0 g (rowA enInt 3 l2 rest)) := fun vs' hv he =>
    hk (n - 1) _ _ _ (by omega) ⟨rfl, i + 1, l2, hv, by omega, by omega, hl2, rfl, by rw [← hs, ← he, show l.length - (i + 1) = m from by omega]; rfl⟩
  refine keep_all ?_
  refine p_gen (run_gtr _ _) ?_
  by_cases h2 : (0 : Int) < j
  case neg =>
    iterate 10 refine gD_skip (decide_eq_false h2) ?_
    refine p_pick_f (decide_eq_false h2) ?_
    refine in_none (if_f ?_)
    refine p_add (by omega) (by omega) ?_
    have : j = 0 := by omega
    subst this
    exact fin _ rfl hb.symm
  obtain ⟨j', rfl⟩ : ∃ j', j = j' + 1 := ⟨j - 1, by omega⟩
  have hsl := sl_row (o := 0) (B := Bk I (upd H0 g (rowA enInt 3 l2 rest))) (cap := cap) enInt (.inl (upd_same _ _ _)) (by omega)
  rw [hl2] at hsl
  have hx := nat_get (xs := l2) (i := j' + 1) (by omega)
  have hy := nat_get (xs := l2) (i := j') (by omega)
  have e1 : ((j' + 1 : Nat) : Int) - 1 = (j' : Nat) := by omega
  refine gD_do (decide_eq_true h2) (gD_do (decide_eq_true h2) (gD_do (decide_eq_true h2) (p_iidx sl_22 ty_3 hsl (by omega) hx fun b o hat => ?_)))
  refine gD_do (decide_eq_true h2) (gD_do (decide_eq_true h2) (gD_do (decide_eq_true h2) (p_sub (by omega) (by omega) ?_)))
  rw [e1]
  refine gD_do (decide_eq_true h2) (p_iidx sl_22 ty_3 hsl (by omega) hy fun b' o' hat' => ?_)
  refine gD_do (decide_eq_true h2) (r_at1 ty_3 hat ?_)
  refine gD_do (decide_eq_true h2) (r_at1 ty_3 hat' ?_)
  refine gD_do (decide_eq_true h2) (cq_quiet (fun H _ => Less_spec _ _ _ H) ?_); rintro _ I - ⟨rfl, rfl⟩
  refine p_pick_t (decide_eq_true h2) ?_
  refine in_none ?_
  refine if_dec (fun h3 => ?_) (fun h3 => ?_)
  · refine jn (keep_none ?_)
    refine p_sub (by omega) (by omega) (p_sub (by omega) (by omega) ?_)
    rw [e1]
    refine p_iidx sl_22 ty_3 hsl (by omega) hy fun b' o' hat' => ?_
    refine p_iidx sl_22 ty_3 hsl (by omega) hx fun b o hat => ?_
    refine rd_own (r_at1 ty_3 hat' (rd_own (r_at1 ty_3 hat ?_)))
    refine p_index sl_22 ty_3 (by omega) (by omega) ?_
    refine stQ_row enInt (i := j' + 1) ty_3 rfl (by omega) (by simp [enInt]) ?_
    refine p_index sl_22 ty_3 (by omega) (by omega) ?_
    refine stQ_row enInt (i := j') ty_3 rfl (by simp; omega) (by simp [enInt]) ?_
    refine in_own ?_
    refine p_sub (by omega) (by omega) ?_
    rw [e1]
    refine hk2 j' _ _ _ (by omega) ⟨rfl, _, rfl, by omega, by simp [hl2], rfl, ?_⟩
    rw [← hb, bub, if_pos h3]
  · refine p_add (by omega) (by omega) ?_
    refine fin _ rfl ?_
    rw [← hb, bub, if_neg h3]
theorem pdq_spec {g cap : Nat} {l : List Int} {rest : List Value} {H0 : PH} (h0 : H0 g = none) (hl : l.length ≤ 12) (hc : l.length ≤ cap) (m : Value) (I : Imm) :
    CallA PP 70 [slv g 0 l.length cap, vi 0, vi l.length, m] I (upd H0 g (rowA enInt 3 l rest)) (fun v I' H' => H' = upd H0 g (rowA enInt 3 (isort l) rest) ∧ I' = I ∧ v = .tuple #[]) := by
  refine S70_ok ?_
  refine loop_inv (fun n vs I' H' => I' = I ∧ nth vs 128 = vi l.length ∧ nth vs 80 = vi 0 ∧ H' = upd H0 g (rowA enInt 3 l rest)) 0 ⟨rfl, rfl, rfl, rfl⟩ ?_
  rintro n vs I _ k hk ⟨rfl, h1, h2, rfl⟩
  rw [h1, h2]
  refine p_sub (by omega) (by omega) ?_
  refine p_gen (run_leq _ _) ?_
  refine if_1 (decide_eq_true (by omega)) ?_
  refine c_call ((isort_spec h0 (by omega) hc I).mono ?_); rintro v I _ - ⟨rfl, rfl, rfl⟩
  exact ⟨rfl, rfl, rfl⟩
theorem isort_nil (I : Imm) (H : PH) : CallA PP 94 [.slice none 0 0, vi 0, vi 0] I H (fun v I' H' => H' = H ∧ I' = I) := by
  refine S94_ok ?_
  refine p_add (by omega) (by omega) ?_
  refine loop_inv (fun n vs I' H' => I' = I ∧ H' = H ∧ nth vs 40 = vi 1) 0 ⟨rfl, rfl, rfl⟩ ?_
  rintro n vs I H k hk ⟨rfl, rfl, h1⟩
  rw [h1]
  refine p_gen (run_lss _ _) (if_0 (decide_eq_false (by omega)) ?_)
  exact ⟨rfl, rfl⟩
theorem pdq_nil (m : Value) (I : Imm) (H : PH) : CallA PP 70 [.slice none 0 0, vi 0, vi 0, m] I H (fun v I' H' => H' = H ∧ I' = I) := by
  refine S70_ok ?_
  refine loop_inv (fun n vs I' H' => I' = I ∧ nth vs 128 = vi 0 ∧ nth vs 80 = vi 0 ∧ H' = H) 0 ⟨rfl, rfl, rfl, rfl⟩ ?_
  rintro n vs I _ k hk ⟨rfl, h1, h2, rfl⟩
  rw [h1, h2]
  refine p_sub (by omega) (by omega) ?_
  refine p_gen (run_leq _ _) ?_
  refine if_1 (decide_eq_true (by omega)) ?_
  refine c_call ((isort_nil I _).mono ?_); rintro v I _ - ⟨rfl, rfl⟩
  exact ⟨rfl, rfl⟩
theorem Len64_spec (n : Nat) (hn : n ≤ 255) (I : Imm) (H : PH) : CallA PP 104 [.int .u64 n] I H (fun v I' H' => H' = H ∧ I' = I) := by
  refine S104_ok ?_
  refine p_gen (run_geq _ _) (if_0 (decide_eq_false (by omega)) ?_)
  refine p_gen (run_geq _ _) (if_0 (decide_eq_false (by simp; omega)) ?_)
  refine p_gen (run_geq _ _) (if_0 (decide_eq_false (by simp; omega)) ?_)
  refine p_gen (run_conv und_142 und_5 _) ?_
  have e : IntKind.u8.wrap (n : Int) = (n : Int) := by simp [IntKind.wrap, IntKind.signed, IntKind.bits]; omega
  rw [e]
  refine p_gen (run_sindex str_9 (getElem?_pos _ n (by show n < 256; omega))) ?_
  refine p_gen (run_conv und_5 und_3 _) ?_
  refine p_gen (run_add _ _) ?_
  exact ⟨rfl, rfl⟩
theorem Len_spec (n : Nat) (hn : n ≤ 255) (I : Imm) (H : PH) : CallA PP 71 [.int .u64 n] I H (fun v I' H' => H' = H ∧ I' = I) := by
  refine S71_ok ?_
  refine if_f ?_
  refine c_call ((Len64_spec n hn I H).mono ?_); rintro v I _ - ⟨rfl, rfl⟩
  exact ⟨rfl, rfl⟩
theorem Sort_spec {H0 H : PH} {v : Value} {l : List Int} (hr : Ro enInt 3 H0 H v l) (hl : l.length ≤ 12) (I : Imm) :
    CallA PP 29 [v] I H (fun _ I' H' => I' = I ∧ Ro enInt 3 H0 H' v (isort l) ∧ (isort l).length = l.length) := by
  refine S29_ok ?_
  refine r_slen sl_22 (hr.sl (B := Bk I H) (fun _ _ h => .inl h)) ?_
  refine p_gen (run_conv und_3 und_111 _) ?_
  have e : IntKind.u64.wrap (l.length : Int) = (l.length : Int) := by simp [IntKind.wrap, IntKind.signed, IntKind.bits]; omega
  rw [e]
  refine c_call ((Len_spec l.length (by omega) I H).mono ?_); rintro m I _ - ⟨rfl, rfl⟩
  have hlen : ∀ (k i : Nat) (l : List Int), (isortN k i l).length = l.length := by
    intro k
    induction k with
    | zero => intro i l; rfl
    | succ k ih => intro i l; rw [isortN, ih, bub_len]
  rcases hr.open with ⟨rfl, rfl, rfl⟩ | ⟨g, cap, rest, rfl, rfl, h3, h4, h5, h6⟩
  · refine c_call ((pdq_nil m I _).mono ?_); rintro v I _ - ⟨rfl, rfl⟩
    exact ⟨rfl, Ro.nil _ _ _, rfl⟩
  · refine c_call ((pdq_spec h3 hl h4 m I).mono ?_); rintro v I _ - ⟨rfl, rfl, rfl⟩
    have h7 : (isort l).length = l.length := hlen _ _ _
    refine ⟨rfl, ?_, h7⟩
    rw [← h7]
    exact Ro.mk h3 (by omega) h5 (by rw [h7]; exact h6)
end Go.Proofs.Ytibgbapeblicjaa
