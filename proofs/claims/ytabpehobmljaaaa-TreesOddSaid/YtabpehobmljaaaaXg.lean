/- TreesRuns; rings and other odd rows of parents. -/
import Derived.Test.YtabpehobmljaaaaXf
import Derived.Test.YtabpehobmljaaaaWl
set_option linter.unusedVariables false
namespace Go.Proofs.Ytabpehobmljaaaa
open Go
set_option maxRecDepth 100000
/- broadside/broadsidelaw21.TreesRuns -/
def S15 (I : Imm) (H : PH) (R : KV) : Prop :=
  wMake PP (Instr.buildSlice 22 3 #[(0, (vi (-1))), (1, (vi 0)), (2, (vi 1))]) I H fun t2 H =>
  wCall PP (vf 11) [t2, (vi 2)] I H fun t4 I H =>
  wMake PP (Instr.buildSlice 22 3 #[(0, (vi 2)), (1, (vi 1)), (2, (vi 0))]) I H fun t5 H =>
  wCall PP (vf 10) [t4, t5] I H fun t6 I H =>
  wGuard t6 true (fun k => k t2 I H) (fun t8 I H =>
  wGuard t6 true (fun k => wCall PP (vf 12) [t8, (vi 2)] I H k) (fun t9 I H =>
  wGuard t6 true (fun k => wPure PP (semBin .eql 3 false true t9 (vi 2)) fun v => k v I H) (fun t10 I H =>
  wPure PP (semPick t6 t10 (vb false)) fun t11 =>
  wGuard t11 true (fun k => k t2 I H) (fun t13 I H =>
  wGuard t11 true (fun k => wCall PP (vf 13) [t13, (vi 1)] I H k) (fun t14 I H =>
  wGuard t11 true (fun k => wMake PP (Instr.buildSlice 22 2 #[(0, (vi 1)), (1, (vi 2))]) I H fun v H => k v I H) (fun t15 I H =>
  wGuard t11 true (fun k => wCall PP (vf 10) [t14, t15] I H k) (fun t16 I H =>
  wPure PP (semPick t11 t16 (vb false)) fun t17 =>
  wGuard t17 true (fun k => wPure PP (Instr.build 38 #[(0, (vi 0)), (1, (vi 1))]) fun v => k v I H) (fun t19 I H =>
  wGuard t17 true (fun k => wPure PP (Instr.build 38 #[(0, (vi 1)), (1, (vi 2))]) fun v => k v I H) (fun t20 I H =>
  wGuard t17 true (fun k => wMake PP (Instr.buildSlice 25 2 #[(0, t19), (1, t20)]) I H fun v H => k v I H) (fun t21 I H =>
  wGuard t17 true (fun k => wPure PP (Instr.build 27 #[(0, (vi 3)), (1, t21)]) fun v => k v I H) (fun t22 I H =>
  wGuard t17 true (fun k => k t2 I H) (fun t23 I H =>
  wGuard t17 true (fun k => wCall PP (vf 14) [t22, t23] I H k) (fun t24 I H =>
  wPure PP (semPick t17 t24 (vb false)) fun t25 =>
  wGuard t25 true (fun k => wMake PP (Instr.buildSlice 22 2 #[(0, (vi 1)), (1, (vi 0))]) I H fun v H => k v I H) (fun t27 I H =>
  wGuard t25 true (fun k => wCall PP (vf 11) [t27, (vi 0)] I H k) (fun t28 I H =>
  wGuard t25 true (fun k => wRead PP (Builtin.len_ #[22] 3 #[t28]) I H fun v => k v I H) (fun t29 I H =>
  wGuard t25 true (fun k => wPure PP (semBin .eql 3 false true t29 (vi 0)) fun v => k v I H) (fun t30 I H =>
  wPure PP (semPick t25 t30 (vb false)) fun t31 =>
  R t31 I H) I H) I H) I H) I H) I H) I H) I H) I H) I H) I H) I H) I H) I H) I H) I H) I H) I H
theorem S15_eq (I : Imm) (H : PH) (R : KV) : WF PP [] Try.f15 [] I H R = S15 I H R := by kernel_rfl
theorem S15_ok {I : Imm} {H : PH} {R : KV} (h : S15 I H R) : CallA PP 15 [] I H R :=
  WF.ok (P := PP) (f := 15) (fn := Try.f15) (ord := []) (args := []) follows Try.func15 (by kernel_rfl) (by kernel_rfl) (by kernel_rfl) ((S15_eq I H R).mpr h)

/- broadside/broadsidelaw21.TreesOdd$1 -/
def S16 (a0 a1 a2 : Value) (I : Imm) (H : PH) (R : KV) : Prop :=
  wMake PP (Instr.buildSlice 22 0 #[]) I H fun t7 H =>
  wRead PP (Instr.loadAt 22 a2) I H fun t8 =>
  wAct PP (Builtin.append_ #[22, 22] 22 #[t7, t8]) I H fun t9 I H =>
  wPure PP (Instr.indexAt 22 t9 a0) fun t13 =>
  wAct PP (Instr.storeAt 3 t13 a1) I H fun _ I H =>
  R t9 I H
theorem S16_eq (a0 a1 a2 : Value) (I : Imm) (H : PH) (R : KV) : WF PP [] Try.f16 [a0, a1, a2] I H R = S16 a0 a1 a2 I H R := by kernel_rfl
theorem S16_ok {a0 a1 a2 : Value} {I : Imm} {H : PH} {R : KV} (h : S16 a0 a1 a2 I H R) : CallA PP 16 [a0, a1, a2] I H R :=
  WF.ok (P := PP) (f := 16) (fn := Try.f16) (ord := []) (args := [a0, a1, a2]) follows Try.func16 (by kernel_rfl) (by kernel_rfl) (by kernel_rfl) ((S16_eq a0 a1 a2 I H R).mpr h)

/- broadside/broadsidelaw21.TreesOdd -/
def S4 (a0 a1 a2 : Value) (I : Imm) (H : PH) (R : KV) : Prop :=
  wCall PP (vf 7) [a0, (vi 3), (vi 9)] I H fun t19 I H =>
  wPure PP (Instr.build 27 #[(0, t19)]) fun t21 =>
  wMake PP (Instr.alloc 27 true (.tuple #[])) I H fun t8 H =>
  wAct PP (Instr.storeAt 27 t8 t21) I H fun _ I H =>
  wMake PP (Instr.buildSlice 22 1 #[(0, (vi (-1)))]) I H fun t22 H =>
  wMake PP (Instr.alloc 22 true (.tuple #[])) I H fun t9 H =>
  wAct PP (Instr.storeAt 22 t9 t22) I H fun _ I H =>
  wJ (fun J =>
    wLoop (fun kc vs_1 I H =>
      wPure PP (semBin .lss 3 false false (nth vs_1 19) t19) fun t25 =>
      wIf t25 (
        wJ (fun J_1 =>
          wPure PP (Instr.fieldAt 27 t8 1) fun t28 =>
          wRead PP (Instr.loadAt 25 t28) I H fun t29 =>
          wPure PP (semBin .sub 3 false true (nth vs_1 19) (vi 1)) fun t31 =>
          wPure PP (Instr.build 38 #[(0, t31), (1, (nth vs_1 19))]) fun t33 =>
          wMake PP (Instr.buildSlice 25 1 #[(0, t33)]) I H fun t34 H =>
          wAct PP (Builtin.append_ #[25, 25] 25 #[t29, t34]) I H fun t35 I H =>
          wPure PP (Instr.fieldAt 27 t8 1) fun t36 =>
          wAct PP (Instr.storeAt 25 t36 t35) I H fun _ I H =>
          wRead PP (Instr.loadAt 22 t9) I H fun t37 =>
          wPure PP (semBin .sub 3 false true (nth vs_1 19) (vi 1)) fun t39 =>
          wMake PP (Instr.buildSlice 22 1 #[(0, t39)]) I H fun t40 H =>
          wAct PP (Builtin.append_ #[22, 22] 22 #[t37, t40]) I H fun t41 I H =>
          wAct PP (Instr.storeAt 22 t9 t41) I H fun _ I H =>
          J_1 [t28, t29, (nth vs_1 19), t31, (nth vs_1 19), t33, t34, t35, t36, t37, (nth vs_1 19), t39, t40, t41] I H)
        (fun vs_2 I H =>
        wPure PP (semBin .add 3 false true (nth vs_1 19) (vi 1)) fun t27 =>
        kc [(nth vs_1 19), t19, t25, (nth vs_2 0), (nth vs_2 1), (nth vs_2 2), (nth vs_2 3), (nth vs_2 4), (nth vs_2 5), (nth vs_2 6), (nth vs_2 7), (nth vs_2 8), (nth vs_2 9), (nth vs_2 10), (nth vs_2 11), (nth vs_2 12), (nth vs_2 13), (nth vs_1 19), t27, t27] I H)) (
        J [(nth vs_1 19), t19, t25, (nth vs_1 3), (nth vs_1 4), (nth vs_1 5), (nth vs_1 6), (nth vs_1 7), (nth vs_1 8), (nth vs_1 9), (nth vs_1 10), (nth vs_1 11), (nth vs_1 12), (nth vs_1 13), (nth vs_1 14), (nth vs_1 15), (nth vs_1 16), (nth vs_1 17), (nth vs_1 18), (nth vs_1 19)] I H))
      [undef, undef, undef, undef, undef, undef, undef, undef, undef, undef, undef, undef, undef, undef, undef, undef, undef, undef, undef, (vi 1)] I H)
  (fun vs I H =>
  wRead PP (Instr.loadAt 27 t8) I H fun t42 =>
  wRead PP (Instr.loadAt 22 t9) I H fun t43 =>
  wCall PP (vf 14) [t42, t43] I H fun t44 I H =>
  wPure PP (Op.unary .not t44) fun t45 =>
  wGuard t45 false (fun k => wRead PP (Instr.loadAt 22 t9) I H fun v => k v I H) (fun t47 I H =>
  wGuard t45 false (fun k => k t19 I H) (fun t48 I H =>
  wGuard t45 false (fun k => wPure PP (semBin .sub 3 false true t48 (vi 1)) fun v => k v I H) (fun t49 I H =>
  wGuard t45 false (fun k => wCall PP (vf 12) [t47, t49] I H k) (fun t50 I H =>
  wGuard t45 false (fun k => k t19 I H) (fun t51 I H =>
  wGuard t45 false (fun k => wPure PP (semBin .sub 3 false true t51 (vi 1)) fun v => k v I H) (fun t52 I H =>
  wGuard t45 false (fun k => wPure PP (semBin .neq 3 false false t50 t52) fun v => k v I H) (fun t53 I H =>
  wPure PP (semPick t45 (vb true) t53) fun t54 =>
  wIf t54 (
    R (vb false) I H) (
  wPure PP (semBin .sub 3 false true t19 (vi 2)) fun t57 =>
  wCall PP (vf 7) [a1, (vi 1), t57] I H fun t58 I H =>
  wPure PP (semBin .add 3 false true t58 (vi 1)) fun t62 =>
  wPure PP (semBin .sub 3 false true t19 (vi 1)) fun t64 =>
  wCall PP (vf 7) [a2, t62, t64] I H fun t65 I H =>
  wCall PP (.func (Fn.func 16) #[] #[t9]) [t58, t65] I H fun t69 I H =>
  wCall PP (.func (Fn.func 16) #[] #[t9]) [t58, (vi (-1))] I H fun t72 I H =>
  wCall PP (.func (Fn.func 16) #[] #[t9]) [t58, (vi (-2))] I H fun t75 I H =>
  wPure PP (semBin .sub 3 false true t19 (vi 1)) fun t78 =>
  wCall PP (.func (Fn.func 16) #[] #[t9]) [t78, (vi 0)] I H fun t79 I H =>
  wKeep H fun Hs Ha =>
  wRead PP (Instr.loadAt 27 t8) I Hs fun t80 =>
  wCallQ PP (vf 14) [t80, t69] I Hs Ha fun t82 I Ha =>
  wGuardD t82 false (fun k => k t72 I Hs Ha) (fun t85 I Hs Ha =>
  wGuardD t82 false (fun k => wRead PP (Instr.loadAt 27 t8) I Hs fun v => k v I Hs Ha) (fun t84 I Hs Ha =>
  wGuardD t82 false (fun k => wCallQ PP (vf 14) [t84, t85] I Hs Ha fun v I Ha => k v I Hs Ha) (fun t86 I Hs Ha =>
  wPure PP (semPick t82 (vb true) t86) fun t87 =>
  wGuardD t87 false (fun k => k t75 I Hs Ha) (fun t90 I Hs Ha =>
  wGuardD t87 false (fun k => wRead PP (Instr.loadAt 27 t8) I Hs fun v => k v I Hs Ha) (fun t89 I Hs Ha =>
  wGuardD t87 false (fun k => wCallQ PP (vf 14) [t89, t90] I Hs Ha fun v I Ha => k v I Hs Ha) (fun t91 I Hs Ha =>
  wPure PP (semPick t87 (vb true) t91) fun t92 =>
  wGuardD t92 false (fun k => k t79 I Hs Ha) (fun t95 I Hs Ha =>
  wGuardD t92 false (fun k => wRead PP (Instr.loadAt 27 t8) I Hs fun v => k v I Hs Ha) (fun t94 I Hs Ha =>
  wGuardD t92 false (fun k => wCallQ PP (vf 14) [t94, t95] I Hs Ha fun v I Ha => k v I Hs Ha) (fun t96 I Hs Ha =>
  wPure PP (semPick t92 (vb true) t96) fun t97 =>
  wGuardD t97 false (fun k => k t19 I Hs Ha) (fun t101 I Hs Ha =>
  wGuardD t97 false (fun k => wPure PP (semBin .sub 3 false true t101 (vi 1)) fun v => k v I Hs Ha) (fun t102 I Hs Ha =>
  wGuardD t97 false (fun k => wRead PP (Instr.loadAt 27 t8) I Hs fun v => k v I Hs Ha) (fun t99 I Hs Ha =>
  wGuardD t97 false (fun k => wRead PP (Instr.loadAt 22 t9) I Hs fun v => k v I Hs Ha) (fun t100 I Hs Ha =>
  wGuardD t97 false (fun k => wPure PP (Instr.sliceAt 22 t100 none (some t102) none) fun v => k v I Hs Ha) (fun t103 I Hs Ha =>
  wGuardD t97 false (fun k => wCallQ PP (vf 14) [t99, t103] I Hs Ha fun v I Ha => k v I Hs Ha) (fun t104 I Hs Ha =>
  wPure PP (semPick t97 (vb true) t104) fun t105 =>
  wIn I (join Hs Ha) fun I H =>
  wIf t105 (
    R (vb false) I H) (
  wCall PP (vf 11) [t69, t65] I H fun t108 I H =>
  wRead PP (Builtin.len_ #[22] 3 #[t108]) I H fun t109 =>
  wPure PP (semBin .eql 3 false true t109 (vi 0)) fun t110 =>
  wGuard t110 true (fun k => k t69 I H) (fun t112 I H =>
  wGuard t110 true (fun k => k t58 I H) (fun t113 I H =>
  wGuard t110 true (fun k => wCall PP (vf 12) [t112, t113] I H k) (fun t114 I H =>
  wGuard t110 true (fun k => wPure PP (semBin .eql 3 false true t114 (vi (-1))) fun v => k v I H) (fun t115 I H =>
  wPure PP (semPick t110 t115 (vb false)) fun t116 =>
  wGuard t116 true (fun k => k t72 I H) (fun t118 I H =>
  wGuard t116 true (fun k => k t58 I H) (fun t119 I H =>
  wGuard t116 true (fun k => wCall PP (vf 12) [t118, t119] I H k) (fun t120 I H =>
  wGuard t116 true (fun k => wPure PP (semBin .eql 3 false true t120 (vi 0)) fun v => k v I H) (fun t121 I H =>
  wPure PP (semPick t116 t121 (vb false)) fun t122 =>
  wGuard t122 true (fun k => k t75 I H) (fun t124 I H =>
  wGuard t122 true (fun k => k t19 I H) (fun t125 I H =>
  wGuard t122 true (fun k => wPure PP (semBin .sub 3 false true t125 (vi 1)) fun v => k v I H) (fun t126 I H =>
  wGuard t122 true (fun k => wCall PP (vf 11) [t124, t126] I H k) (fun t127 I H =>
  wGuard t122 true (fun k => wRead PP (Builtin.len_ #[22] 3 #[t127]) I H fun v => k v I H) (fun t128 I H =>
  wGuard t122 true (fun k => wPure PP (semBin .eql 3 false true t128 (vi 0)) fun v => k v I H) (fun t129 I H =>
  wPure PP (semPick t122 t129 (vb false)) fun t130 =>
  wGuard t130 true (fun k => k t79 I H) (fun t132 I H =>
  wGuard t130 true (fun k => k t19 I H) (fun t133 I H =>
  wGuard t130 true (fun k => wPure PP (semBin .sub 3 false true t133 (vi 1)) fun v => k v I H) (fun t134 I H =>
  wGuard t130 true (fun k => wCall PP (vf 12) [t132, t134] I H k) (fun t135 I H =>
  wGuard t130 true (fun k => wPure PP (semBin .eql 3 false true t135 (vi 1)) fun v => k v I H) (fun t136 I H =>
  wPure PP (semPick t130 t136 (vb false)) fun t137 =>
  wGuard t137 true (fun k => k t75 I H) (fun t139 I H =>
  wGuard t137 true (fun k => k t58 I H) (fun t140 I H =>
  wGuard t137 true (fun k => wCall PP (vf 13) [t139, t140] I H k) (fun t141 I H =>
  wGuard t137 true (fun k => wRead PP (Builtin.len_ #[22] 3 #[t141]) I H fun v => k v I H) (fun t142 I H =>
  wGuard t137 true (fun k => wPure PP (semBin .eql 3 false true t142 (vi 0)) fun v => k v I H) (fun t143 I H =>
  wPure PP (semPick t137 t143 (vb false)) fun t144 =>
  wGuard t144 true (fun k => k t72 I H) (fun t146 I H =>
  wGuard t144 true (fun k => k t58 I H) (fun t147 I H =>
  wGuard t144 true (fun k => wCall PP (vf 13) [t146, t147] I H k) (fun t148 I H =>
  wGuard t144 true (fun k => wRead PP (Builtin.len_ #[22] 3 #[t148]) I H fun v => k v I H) (fun t149 I H =>
  wGuard t144 true (fun k => k t19 I H) (fun t150 I H =>
  wGuard t144 true (fun k => k t58 I H) (fun t151 I H =>
  wGuard t144 true (fun k => wPure PP (semBin .sub 3 false false t150 t151) fun v => k v I H) (fun t152 I H =>
  wGuard t144 true (fun k => wPure PP (semBin .eql 3 false false t149 t152) fun v => k v I H) (fun t153 I H =>
  wPure PP (semPick t144 t153 (vb false)) fun t154 =>
  wGuard t154 true (fun k => wCall PP (vf 15) [] I H k) (fun t156 I H =>
  wPure PP (semPick t154 t156 (vb false)) fun t157 =>
  R t157 I H) I H) I H) I H) I H) I H) I H) I H) I H) I H) I H) I H) I H) I H) I H) I H) I H) I H) I H) I H) I H) I H) I H) I H) I H) I H) I H) I H) I H) I H) I H) I H) I H) I H)) I Hs Ha) I Hs Ha) I Hs Ha) I Hs Ha) I Hs Ha) I Hs Ha) I Hs Ha) I Hs Ha) I Hs Ha) I Hs Ha) I Hs Ha) I Hs Ha) I Hs Ha) I Hs Ha) I Hs Ha)) I H) I H) I H) I H) I H) I H) I H)
theorem S4_eq (a0 a1 a2 : Value) (I : Imm) (H : PH) (R : KV) : WF PP [[], [], [], [], [], [], [], [], [], [], [], [], [], [], [], [1, 0, 2, 3, 5, 4, 6, 7, 8, 10, 9, 11, 12, 13, 15, 14, 16, 17, 18, 21, 22, 19, 20, 23, 24, 25]] Try.f4 [a0, a1, a2] I H R = S4 a0 a1 a2 I H R := by kernel_rfl
theorem S4_ok {a0 a1 a2 : Value} {I : Imm} {H : PH} {R : KV} (h : S4 a0 a1 a2 I H R) : CallA PP 4 [a0, a1, a2] I H R :=
  WF.ok (P := PP) (f := 4) (fn := Try.f4) (ord := [[], [], [], [], [], [], [], [], [], [], [], [], [], [], [], [1, 0, 2, 3, 5, 4, 6, 7, 8, 10, 9, 11, 12, 13, 15, 14, 16, 17, 18, 21, 22, 19, 20, 23, 24, 25]]) (args := [a0, a1, a2]) follows Try.func4 (by kernel_rfl) (by kernel_rfl) (by kernel_rfl) ((S4_eq a0 a1 a2 I H R).mpr h)


theorem nearRaw_le (nb b : Int) : ∀ ls : List (Int × Int), (nearRaw nb b ls).length ≤ ls.length
  | [] => by simp [nearRaw]
  | x :: ls => by
    have := nearRaw_le nb b ls
    have h1 : (nearOf nb b x).length ≤ 1 := by unfold nearOf; split <;> (try split) <;> (try split) <;> simp
    simp only [nearRaw, List.flatMap_cons, List.length_append, List.length_cons] at this ⊢
    omega
/-- the ints of a literal among the own blocks -/
theorem lit_sl {L : List (Nat × Obj)} {H : PH} {I : Imm} {b n : Nat} {vs : List Value} (xs : List Int) (hnd : ND L H) (hm : (b, .cells vs.toArray 3 (0, 0)) ∈ L) (hv : vs = encs enInt xs) (hn : xs.length = n) : Sl elInt (Bk I (upds L H)) (slv b 0 n n) xs := by
  subst hn hv
  exact sl_row (rest := []) (o := 0) enInt (.inl (by have := hnd.mem hm; simpa [rowA] using this)) (Nat.le_refl _)

theorem TreesRuns_spec (I : Imm) (H : PH) : CallA PP 15 [] I H (fun v I' H' => H' = H ∧ v = .bool true) := by
  refine CallA.post (S15_ok ?_)
  have hnd := ND.nil H
  refine mk_lit (L := []) [vi (-1), vi 0, vi 1] sl_22 ty_3 zero_3 rfl rfl rfl rfl (by simp) (by simp) hnd fun b1 hb1 hnd => ?_
  have hp : ∀ {L I2}, ND L H → (b1, .cells (flatC [vi (-1), vi 0, vi 1]).toArray 3 (0, 0)) ∈ L → Sl elInt (Bk I2 (upds L H)) (slv b1 0 3 3) [-1, 0, 1] := fun hnd hm => lit_sl [-1, 0, 1] hnd hm rfl rfl
  refine c_call ((Path_spec (by simp) 2 I _ (hp hnd (.head _))).mono ?_); rintro v I1 _ hl1 ⟨rfl, h1⟩
  refine mk_lit (L := [_]) [vi 2, vi 1, vi 0] sl_22 ty_3 zero_3 rfl rfl rfl rfl (by simp) (by simp) hnd fun b2 hb2 hnd => ?_
  refine c_call ((Same_spec I1 _ (Nat.le_of_ble_eq_true (by kernel_rfl)) (h1.mono (Im_Bk _ _)) (lit_sl [2, 1, 0] hnd (.head _) rfl rfl)).mono ?_); rintro v I1 _ - ⟨rfl, rfl, rfl⟩
  have e1 : decide (pathL [-1, 0, 1] 2 = [2, 1, 0]) = true := by kernel_rfl
  rw [e1]
  refine g_do rfl (g_do rfl ?_)
  refine c_call ((Depth_spec (by simp) 2 I1 _ (hp hnd (.tail _ (.head _)))).mono ?_); rintro v I2 _ hl2 ⟨rfl, rfl⟩
  have e2 : ((pathL [-1, 0, 1] 2).length : Int) - 1 = 2 := by kernel_rfl
  rw [e2]
  refine g_do rfl (p_gen (run_eql _ _) (p_pick_t rfl ?_))
  refine g_do rfl (g_do rfl ?_)
  refine c_call ((Below_spec (by simp) 1 I2 _ (hp hnd (.tail _ (.head _)))).mono ?_); rintro v I3 _ hl3 ⟨rfl, h3⟩
  refine g_do rfl ?_
  refine mk_lit (L := [_, _]) [vi 1, vi 2] sl_22 ty_3 zero_3 rfl rfl rfl rfl (by simp) (by simp) hnd fun b4 hb4 hnd => ?_
  refine g_do rfl ?_
  refine c_call ((Same_spec I3 _ (Nat.le_of_ble_eq_true (by kernel_rfl)) (h3.mono (Im_Bk _ _)) (lit_sl [1, 2] hnd (.head _) rfl rfl)).mono ?_); rintro v I3 _ - ⟨rfl, rfl, rfl⟩
  have e3 : decide (belowL [-1, 0, 1] 1 = [1, 2]) = true := by kernel_rfl
  rw [e3]
  refine p_pick_t rfl ?_
  refine g_do rfl (p_build #[vi 0, vi 1] (by kernel_rfl) ?_)
  refine g_do rfl (p_build #[vi 1, vi 2] (by kernel_rfl) ?_)
  refine g_do rfl ?_
  refine mk_lit (L := [_, _, _]) [lkv (0, 1), lkv (1, 2)] sl_25 ty_38 zero_38 rfl rfl rfl rfl (by simp) (by simp) hnd fun b5 hb5 hnd => ?_
  refine g_do rfl (p_build #[vi 3, slv b5 0 2 2] (by kernel_rfl) ?_)
  refine g_do rfl (g_do rfl ?_)
  have hg : Sl elP (Bk I3 (upds _ H)) (slv b5 0 2 2) [(0, 1), (1, 2)] :=
    sl_row (rest := []) (o := 0) (cap := 2) (xs := [(0, 1), (1, 2)]) enP (Or.inl (hnd.mem (.head _))) (by decide)
  refine c_call ((Spans_spec (fun a => Nat.le_trans (nearRaw_le _ _ _) (by simp)) (by simp) (by simp) I3 _ hg (hp hnd (.tail _ (.tail _ (.tail _ (.head _)))))).mono ?_); rintro v I4 _ hl4 ⟨rfl, rfl⟩
  have e4 : spansL 3 [(0, 1), (1, 2)] [-1, 0, 1] = true := by kernel_rfl
  rw [e4]
  refine p_pick_t rfl ?_
  refine g_do rfl ?_
  refine mk_lit (L := [_, _, _, _]) [vi 1, vi 0] sl_22 ty_3 zero_3 rfl rfl rfl rfl (by simp) (by simp) hnd fun b6 hb6 hnd => ?_
  refine g_do rfl ?_
  refine c_call ((Path_spec (by simp) 0 I4 _ (lit_sl [1, 0] hnd (.head _) rfl rfl)).mono ?_); rintro v I5 _ hl5 ⟨rfl, h5⟩
  refine g_do rfl (r_slen sl_22 h5 ?_)
  have e5 : ((pathL [1, 0] 0).length : Int) = 0 := by kernel_rfl
  rw [e5]
  refine g_do rfl (p_gen (run_eql _ _) (p_pick_t rfl ?_))
  exact ⟨_, _, ends hnd, .refl _, rfl, rfl⟩

theorem turn_spec {b9 : Nat} {T : TypeId} {pv : Value} {ps : List Int} (i : Nat) (x : Int) (hi : i < ps.length) (hl : ps.length ≤ 1000000) (I : Imm) (H : PH) (hb : H b9 = some (.cells #[pv] T (0, 0))) (hs : Sl elInt (Bk I H) pv ps) :
    CallA PP 16 [vi i, vi x, ptr b9 0] I H (fun r I' H' => H' = H ∧ Sl elInt (Im I') r (ps.set i x)) := by
  refine CallA.fin (S16_ok ?_)
  have hnd := ND.nil H
  refine mk_lit0 (L := []) sl_22 ty_3 hnd fun b7 hb7 hnd => ?_
  have hs0 := hs.mono (Bk_sub (I := I) (upds_sub hnd))
  refine ld1 (v := pv) ty_22 (.inl (upds_sub hnd _ _ hb)) rfl ?_
  refine ap_sl (e := enInt) (xs := []) row_22 (Ro.lit0 enInt 3 (show H b7 = none from hnd.top)) hs0 (by simp; omega) (by decide) fun v' H2 hr => ?_
  rw [List.nil_append] at hr
  rcases hr.open with ⟨rfl, rfl, rfl⟩ | ⟨g, cap, rest, rfl, rfl, h3, h4, h5, h6⟩
  · simp at hi
  refine p_index sl_22 ty_3 (by omega) (by omega) ?_
  refine stG_row enInt (i := i) (y := x) ty_3 rfl hi (by simp [enInt]) ?_
  intro hd
  have hr2 : Ro enInt 3 H (upd H g (rowA enInt 3 (ps.set i x) rest)) (slv g 0 ps.length cap) (ps.set i x) := by
    have := Ro.mk (e := enInt) (E := 3) (xs := ps.set i x) (rest := rest) h3 (by simpa using h4) h5 (by simpa using h6)
    simpa using this
  obtain ⟨I2, h7, h8, h9⟩ := hr2.freeze hd
  exact ⟨I2, H, h7, h8, rfl, h9⟩
end Go.Proofs.Ytabpehobmljaaaa
