/- TreesTells: what its code computes. -/
import Derived.Test.YtibgbapeblicjaaXk
import Derived.Test.YtibgbapeblicjaaXg
set_option linter.unusedVariables false
namespace Go.Proofs.Ytibgbapeblicjaa
open Go
set_option maxRecDepth 100000
/- broadside/broadsidelaw21.TreesTells -/
def S3 (a0 a1 a2 : Value) (I : Imm) (H : PH) (R : KV) : Prop :=
  wMake PP (Instr.box 24 a0) I H fun t3 H =>
  wRead PP (Instr.loadAt 24 t3) I H fun t18 =>
  wCall PP (vf 5) [t18] I H fun t19 I H =>
  wMake PP (Instr.alloc 27 true (.tuple #[])) I H fun t7 H =>
  wAct PP (Instr.storeAt 27 t7 t19) I H fun _ I H =>
  wMake PP (Instr.alloc 22 true (.tuple #[])) I H fun t8 H =>
  wJ (fun J =>
    wLoop (fun kc vs_1 I H =>
      wRead PP (Builtin.len_ #[22] 3 #[a1]) I H fun t22 =>
      wPure PP (semBin .lss 3 false false (nth vs_1 18) t22) fun t23 =>
      wGuard t23 true (fun k => k (nth vs_1 18) I H) (fun t25 I H =>
      wGuard t23 true (fun k => wPure PP (semBin .lss 3 false true t25 (vi 8)) fun v => k v I H) (fun t26 I H =>
      wPure PP (semPick t23 t26 (vb false)) fun t27 =>
      wIf t27 (
        wJ (fun J_1 =>
          wKeep H fun Hs Ha =>
          wPure PP (Instr.indexAt 22 a1 (nth vs_1 18)) fun t33 =>
          wRead PP (Instr.loadAt 22 t8) I (join Hs Ha) fun t30 =>
          wRead PP (Instr.loadAt 3 t33) I (join Hs Ha) fun t34 =>
          wCallN PP (vf 6) [t34, (vi (-2)), (vi 7)] I Hs Ha fun t35 I =>
          wMakeD PP (Instr.buildSlice 22 1 #[(0, t35)]) I Hs Ha fun t36 Hs =>
          wActQ PP (Builtin.append_ #[22, 22] 22 #[t30, t36]) I Hs Ha fun t37 I Ha =>
          wActQ PP (Instr.storeAt 22 t8 t37) I Hs Ha fun _ I Ha =>
          wIn I (join Hs Ha) fun I H =>
          J_1 [t30, a1, (nth vs_1 18), t33, t34, t35, t36, t37] I H)
        (fun vs_2 I H =>
        wPure PP (semBin .add 3 false true (nth vs_1 18) (vi 1)) fun t29 =>
        kc [(nth vs_1 18), a1, t22, t23, t23, t25, t26, t27, (nth vs_2 0), (nth vs_2 1), (nth vs_2 2), (nth vs_2 3), (nth vs_2 4), (nth vs_2 5), (nth vs_2 6), (nth vs_2 7), (nth vs_1 18), t29, t29] I H)) (
        J [(nth vs_1 18), a1, t22, t23, t23, t25, t26, t27, (nth vs_1 8), (nth vs_1 9), (nth vs_1 10), (nth vs_1 11), (nth vs_1 12), (nth vs_1 13), (nth vs_1 14), (nth vs_1 15), (nth vs_1 16), (nth vs_1 17), (nth vs_1 18)] I H)) I H) I H)
      [undef, undef, undef, undef, undef, undef, undef, undef, undef, undef, undef, undef, undef, undef, undef, undef, undef, undef, (vi 0)] I H)
  (fun vs I H =>
  wCall PP (vf 6) [a2, (vi (-1)), (vi 8)] I H fun t40 I H =>
  wKeep H fun Hs Ha =>
  wPure PP (Instr.fieldAt 27 t7 0) fun t43 =>
  wRead PP (Instr.loadAt 22 t8) I Hs fun t41 =>
  wRead PP (Builtin.len_ #[22] 3 #[t41]) I Hs fun t42 =>
  wRead PP (Instr.loadAt 3 t43) I Hs fun t44 =>
  wPure PP (semBin .eql 3 false false t42 t44) fun t45 =>
  wIn I (join Hs Ha) fun I H =>
  wRead PP (Instr.loadAt 22 t8) I H fun t46 =>
  wRead PP (Builtin.len_ #[22] 3 #[t46]) I H fun t47 =>
  wJ (fun J_2 =>
    wLoop (fun kc_1 vs_4 I H =>
      wPure PP (semBin .lss 3 false false (nth vs_4 50) t47) fun t49 =>
      wIf t49 (
        wJ (fun J_3 =>
          wCall PP (.func (Fn.func 7) #[] #[t8]) [(nth vs_4 50)] I H fun t53 I H =>
          wRead PP (Builtin.len_ #[22] 3 #[t53]) I H fun t54 =>
          wJ (fun J_4 =>
            wLoop (fun kc_2 vs_7 I H =>
              wPure PP (semBin .lss 3 false false (nth vs_7 13) t54) fun t56 =>
              wIf t56 (
                wJ (fun J_5 =>
                  wPure PP (Instr.indexAt 22 t53 (nth vs_7 13)) fun t57 =>
                  wRead PP (Instr.loadAt 3 t57) I H fun t58 =>
                  wPure PP (semBin .eql 3 false false t58 t40) fun t61 =>
                  wJ (fun J_6 =>
                    wIf t61 (
                      wMake PP (Instr.buildSlice 22 1 #[(0, (nth vs_4 50))]) I H fun t64 H =>
                      wAct PP (Builtin.append_ #[22, 22] 22 #[(nth vs_7 11), t64]) I H fun t65 I H =>
                      J_6 [(nth vs_7 11), (nth vs_4 50), t64, t65, t65] I H) (
                      J_6 [(nth vs_7 7), (nth vs_7 8), (nth vs_7 9), (nth vs_7 10), (nth vs_7 11)] I H))
                  (fun vs_9 I H =>
                  J_5 [t57, t58, t58, t58, t40, t61, (nth vs_9 0), (nth vs_9 1), (nth vs_9 2), (nth vs_9 3), (nth vs_9 4)] I H))
                (fun vs_8 I H =>
                wPure PP (semBin .add 3 false true (nth vs_7 13) (vi 1)) fun t66 =>
                kc_2 [t56, (nth vs_8 0), (nth vs_8 1), (nth vs_8 2), (nth vs_8 3), (nth vs_8 4), (nth vs_8 5), (nth vs_8 6), (nth vs_8 7), (nth vs_8 8), (nth vs_8 9), (nth vs_8 10), t66, t66] I H)) (
                J_4 [t56, (nth vs_7 1), (nth vs_7 2), (nth vs_7 3), (nth vs_7 4), (nth vs_7 5), (nth vs_7 6), (nth vs_7 7), (nth vs_7 8), (nth vs_7 9), (nth vs_7 10), (nth vs_7 11), (nth vs_7 12), (nth vs_7 13)] I H))
              [(nth vs_4 8), (nth vs_4 9), (nth vs_4 10), (nth vs_4 11), (nth vs_4 12), (nth vs_4 13), (nth vs_4 14), (nth vs_4 15), (nth vs_4 16), (nth vs_4 17), (nth vs_4 18), (nth vs_4 19), (nth vs_4 20), (vi 0)] I H)
          (fun vs_6 I H =>
          wRead PP (Instr.loadAt 22 t8) I H fun t67 =>
          wPure PP (Instr.indexAt 22 t67 (nth vs_4 50)) fun t69 =>
          wRead PP (Instr.loadAt 3 t69) I H fun t70 =>
          wPure PP (semBin .eql 3 false true t70 (vi (-1))) fun t71 =>
          wJ (fun J_7 =>
            wIf t71 (
              wPure PP (semBin .add 3 false true (nth vs_4 28) (vi 1)) fun t73 =>
              J_7 [(nth vs_4 28), t73, t73, (nth vs_4 29), (nth vs_4 30), (nth vs_4 31), (nth vs_4 32), (nth vs_4 33), (nth vs_4 34), (nth vs_4 35), (nth vs_4 36), (nth vs_4 37), (nth vs_4 38), (nth vs_4 39), (nth vs_4 40)] I H) (
              wKeep H fun Hs Ha =>
              wGuardD (nth vs_4 40) true (fun k => k (nth vs_4 50) I Hs Ha) (fun t77 I Hs Ha =>
              wGuardD (nth vs_4 40) true (fun k => k (nth vs_4 50) I Hs Ha) (fun t79 I Hs Ha =>
              wGuardD (nth vs_4 40) true (fun k => wRead PP (Instr.loadAt 27 t7) I Hs fun v => k v I Hs Ha) (fun t76 I Hs Ha =>
              wGuardD (nth vs_4 40) true (fun k => wRead PP (Instr.loadAt 22 t8) I Hs fun v => k v I Hs Ha) (fun t78 I Hs Ha =>
              wGuardD (nth vs_4 40) true (fun k => wPure PP (Instr.indexAt 22 t78 t79) fun v => k v I Hs Ha) (fun t80 I Hs Ha =>
              wGuardD (nth vs_4 40) true (fun k => wRead PP (Instr.loadAt 3 t80) I Hs fun v => k v I Hs Ha) (fun t81 I Hs Ha =>
              wGuardD (nth vs_4 40) true (fun k => wCallQ PP (vf 8) [t76, t77, t81] I Hs Ha fun v I Ha => k v I Hs Ha) (fun t82 I Hs Ha =>
              wGuardD (nth vs_4 40) true (fun k => wPure PP (Op.unary .not t82) fun v => k v I Hs Ha) (fun t83 I Hs Ha =>
              wPure PP (semPick (nth vs_4 40) t83 (vb false)) fun t84 =>
              wIn I (join Hs Ha) fun I H =>
              wJ (fun J_8 =>
                wIf t84 (
                  J_8 [(vb false)] I H) (
                  J_8 [(nth vs_4 40)] I H))
              (fun vs_11 I H =>
              J_7 [(nth vs_4 26), (nth vs_4 27), (nth vs_4 28), (nth vs_4 40), (nth vs_4 40), t76, t77, t78, t79, t80, t81, t82, t83, t84, (nth vs_11 0)] I H)) I Hs Ha) I Hs Ha) I Hs Ha) I Hs Ha) I Hs Ha) I Hs Ha) I Hs Ha) I Hs Ha))
          (fun vs_10 I H =>
          wGuard (nth vs_10 14) true (fun k => k (.func (Fn.func 7) #[] #[t8]) I H) (fun t87 I H =>
          wGuard (nth vs_10 14) true (fun k => k (nth vs_4 50) I H) (fun t88 I H =>
          wGuard (nth vs_10 14) true (fun k => wCall PP t87 [t88] I H k) (fun t89 I H =>
          wGuard (nth vs_10 14) true (fun k => wRead PP (Builtin.len_ #[22] 3 #[t89]) I H fun v => k v I H) (fun t90 I H =>
          wGuard (nth vs_10 14) true (fun k => wPure PP (semBin .gtr 3 false true t90 (vi 0)) fun v => k v I H) (fun t91 I H =>
          wPure PP (semPick (nth vs_10 14) t91 (vb false)) fun t92 =>
          J_3 [(nth vs_4 50), (nth vs_4 50), (.func (Fn.func 7) #[] #[t8]), (nth vs_4 50), t53, t54, (nth vs_6 13), (nth vs_6 0), (nth vs_6 1), (nth vs_6 2), (nth vs_6 3), (nth vs_6 4), (nth vs_6 5), (nth vs_6 6), (nth vs_6 7), (nth vs_6 8), (nth vs_6 9), (nth vs_6 10), (nth vs_6 11), (nth vs_6 12), t67, (nth vs_4 50), t69, t70, t71, (nth vs_10 0), (nth vs_10 1), (nth vs_10 2), (nth vs_10 3), (nth vs_10 4), (nth vs_10 5), (nth vs_10 6), (nth vs_10 7), (nth vs_10 8), (nth vs_10 9), (nth vs_10 10), (nth vs_10 11), (nth vs_10 12), (nth vs_10 13), t92, (nth vs_10 14), (nth vs_10 14), t87, t88, t89, t90, t91, t92] I H) I H) I H) I H) I H) I H)))
        (fun vs_5 I H =>
        wPure PP (semBin .add 3 false true (nth vs_4 50) (vi 1)) fun t93 =>
        kc_1 [t49, (nth vs_5 0), (nth vs_5 1), (nth vs_5 2), (nth vs_5 3), (nth vs_5 4), (nth vs_5 5), (nth vs_5 6), (nth vs_5 7), (nth vs_5 8), (nth vs_5 9), (nth vs_5 10), (nth vs_5 11), (nth vs_5 12), (nth vs_5 13), (nth vs_5 14), (nth vs_5 15), (nth vs_5 16), (nth vs_5 17), (nth vs_5 18), (nth vs_5 19), (nth vs_5 20), (nth vs_5 21), (nth vs_5 22), (nth vs_5 23), (nth vs_5 24), (nth vs_5 25), (nth vs_5 26), (nth vs_5 27), (nth vs_5 28), (nth vs_5 29), (nth vs_5 30), (nth vs_5 31), (nth vs_5 32), (nth vs_5 33), (nth vs_5 34), (nth vs_5 35), (nth vs_5 36), (nth vs_5 37), (nth vs_5 38), (nth vs_5 39), (nth vs_5 40), (nth vs_5 41), (nth vs_5 42), (nth vs_5 43), (nth vs_5 44), (nth vs_5 45), (nth vs_5 46), (nth vs_5 47), t93, t93] I H)) (
        J_2 [t49, (nth vs_4 1), (nth vs_4 2), (nth vs_4 3), (nth vs_4 4), (nth vs_4 5), (nth vs_4 6), (nth vs_4 7), (nth vs_4 8), (nth vs_4 9), (nth vs_4 10), (nth vs_4 11), (nth vs_4 12), (nth vs_4 13), (nth vs_4 14), (nth vs_4 15), (nth vs_4 16), (nth vs_4 17), (nth vs_4 18), (nth vs_4 19), (nth vs_4 20), (nth vs_4 21), (nth vs_4 22), (nth vs_4 23), (nth vs_4 24), (nth vs_4 25), (nth vs_4 26), (nth vs_4 27), (nth vs_4 28), (nth vs_4 29), (nth vs_4 30), (nth vs_4 31), (nth vs_4 32), (nth vs_4 33), (nth vs_4 34), (nth vs_4 35), (nth vs_4 36), (nth vs_4 37), (nth vs_4 38), (nth vs_4 39), (nth vs_4 40), (nth vs_4 41), (nth vs_4 42), (nth vs_4 43), (nth vs_4 44), (nth vs_4 45), (nth vs_4 46), (nth vs_4 47), (nth vs_4 48), (nth vs_4 49), (nth vs_4 50)] I H))
      [undef, undef, undef, undef, undef, undef, undef, undef, undef, undef, undef, undef, undef, undef, undef, undef, undef, undef, undef, (Value.slice none 0 0), undef, undef, undef, undef, undef, undef, undef, undef, (vi 0), undef, undef, undef, undef, undef, undef, undef, undef, undef, undef, undef, t45, undef, undef, undef, undef, undef, undef, undef, undef, undef, (vi 0)] I H)
  (fun vs_3 I H =>
  wRead PP (Instr.loadAt 22 t8) I H fun t94 =>
  wCall PP (vf 10) [t94, t40] I H fun t96 I H =>
  wCall PP (.func (Fn.func 7) #[] #[t8]) [t40] I H fun t99 I H =>
  wCall PP (vf 9) [t96, t99] I H fun t100 I H =>
  wGuard t100 true (fun k => wRead PP (Instr.loadAt 22 t8) I H fun v => k v I H) (fun t102 I H =>
  wGuard t100 true (fun k => k t40 I H) (fun t103 I H =>
  wGuard t100 true (fun k => wCall PP (vf 11) [t102, t103] I H k) (fun t104 I H =>
  wGuard t100 true (fun k => k (.func (Fn.func 7) #[] #[t8]) I H) (fun t105 I H =>
  wGuard t100 true (fun k => k t40 I H) (fun t106 I H =>
  wGuard t100 true (fun k => wCall PP t105 [t106] I H k) (fun t107 I H =>
  wGuard t100 true (fun k => wRead PP (Builtin.len_ #[22] 3 #[t107]) I H fun v => k v I H) (fun t108 I H =>
  wGuard t100 true (fun k => wPure PP (semBin .sub 3 false true t108 (vi 1)) fun v => k v I H) (fun t109 I H =>
  wGuard t100 true (fun k => wPure PP (semBin .eql 3 false false t104 t109) fun v => k v I H) (fun t110 I H =>
  wPure PP (semPick t100 t110 (vb false)) fun t111 =>
  wGuard t111 true (fun k => wRead PP (Instr.loadAt 22 t8) I H fun v => k v I H) (fun t113 I H =>
  wGuard t111 true (fun k => k t40 I H) (fun t114 I H =>
  wGuard t111 true (fun k => wCall PP (vf 12) [t113, t114] I H k) (fun t115 I H =>
  wGuard t111 true (fun k => k (nth vs_3 19) I H) (fun t116 I H =>
  wGuard t111 true (fun k => wCall PP (vf 9) [t115, t116] I H k) (fun t117 I H =>
  wPure PP (semPick t111 t117 (vb false)) fun t118 =>
  wGuard t118 true (fun k => wRead PP (Instr.loadAt 27 t7) I H fun v => k v I H) (fun t120 I H =>
  wGuard t118 true (fun k => wRead PP (Instr.loadAt 22 t8) I H fun v => k v I H) (fun t121 I H =>
  wGuard t118 true (fun k => wCall PP (vf 13) [t120, t121] I H k) (fun t122 I H =>
  wGuard t118 true (fun k => k (nth vs_3 40) I H) (fun t123 I H =>
  wGuard t118 true (fun k => k t123 I H) (fun t124 I H =>
  wGuard t124 true (fun k => k (nth vs_3 28) I H) (fun t125 I H =>
  wGuard t124 true (fun k => wPure PP (semBin .eql 3 false true t125 (vi 1)) fun v => k v I H) (fun t126 I H =>
  wGuard t118 true (fun k => wPure PP (semPick t124 t126 (vb false)) fun v => k v I H) (fun t127 I H =>
  wGuard t118 true (fun k => wPure PP (semBin .eql 4 false false t122 t127) fun v => k v I H) (fun t128 I H =>
  wPure PP (semPick t118 t128 (vb false)) fun t129 =>
  wGuard t129 true (fun k => wCall PP (vf 14) [] I H k) (fun t131 I H =>
  wPure PP (semPick t129 t131 (vb false)) fun t132 =>
  R t132 I H) I H) I H) I H) I H) I H) I H) I H) I H) I H) I H) I H) I H) I H) I H) I H) I H) I H) I H) I H) I H) I H) I H) I H) I H))
theorem S3_eq (a0 a1 a2 : Value) (I : Imm) (H : PH) (R : KV) : WF PP [[], [], [], [], [], [], [1, 2, 3, 1000, 1004, 1005, 6, 7, 8], [], [], [], [2, 5, 0, 1, 3, 4, 6], [], [], [], [], [], [], [], [], [], [], [], [0, 1, 3, 5, 2, 4, 6, 7, 8, 9, 10]] Try.f3 [a0, a1, a2] I H R = S3 a0 a1 a2 I H R := by kernel_rfl
theorem S3_ok {a0 a1 a2 : Value} {I : Imm} {H : PH} {R : KV} (h : S3 a0 a1 a2 I H R) : CallA PP 3 [a0, a1, a2] I H R :=
  WF.ok (P := PP) (f := 3) (fn := Try.f3) (ord := [[], [], [], [], [], [], [1, 2, 3, 1000, 1004, 1005, 6, 7, 8], [], [], [], [2, 5, 0, 1, 3, 4, 6], [], [], [], [], [], [], [], [], [], [], [], [0, 1, 3, 5, 2, 4, 6, 7, 8, 9, 10]]) (args := [a0, a1, a2]) follows Try.func3 (by kernel_rfl) (by kernel_rfl) (by kernel_rfl) ((S3_eq a0 a1 a2 I H R).mpr h)


def tellP (ps : List Int) : List Int := (ps.take 8).map fun x => within x (-2) 7
theorem tellP_len (ps : List Int) : (tellP ps).length = min 8 ps.length := by simp [tellP]
theorem tellP_snoc (ps : List Int) (i : Nat) (h : i < ps.length) : (ps.take (i + 1)).map (fun x => within x (-2) 7) = (ps.take i).map (fun x => within x (-2) 7) ++ [within (ps.getD i 0) (-2) 7] := by
  rw [List.take_add_one, List.getElem?_eq_getElem h, List.map_append, List.getD_eq_getElem?_getD, List.getElem?_eq_getElem h]; rfl
def innerB (x v : Int) (path : List Int) : List Int := (path.filter fun u => decide (u = x)).map fun _ => v
/-- roots, and whether the parents span so far -/
def stepT (nb : Int) (ls : List (Int × Int)) (p : List Int) (v : Nat) (st : Nat × Bool) : Nat × Bool :=
  if p.getD v 0 = -1 then (st.1 + 1, st.2 && decide (0 < (path10 p v).length))
  else (st.1, (st.2 && decide (p.getD v 0 ∈ nearL nb ls v)) && decide (0 < (path10 p v).length))
def tellGo (nb : Int) (ls : List (Int × Int)) (p : List Int) : Nat → Nat → Nat × Bool → Nat × Bool
  | 0, _, st => st
  | k + 1, v, st => tellGo nb ls p k (v + 1) (stepT nb ls p v st)
def belowT (p : List Int) (x : Int) : Nat → List Int
  | 0 => []
  | n + 1 => belowT p x n ++ innerB x n (path10 p n)
theorem path10_len (ps : List Int) (v : Int) : (path10 ps v).length ≤ 10 := by have := path10Go_len ps 10 v []; simpa [path10] using this
theorem innerB_len (x v : Int) (l : List Int) : (innerB x v l).length ≤ l.length := by simp only [innerB, List.length_map]; exact List.length_filter_le _ _
theorem belowT_len (p : List Int) (x : Int) : ∀ n, (belowT p x n).length ≤ 10 * n
  | 0 => by simp [belowT]
  | n + 1 => by
    have h1 := belowT_len p x n
    have h2 := innerB_len x n (path10 p n)
    have h3 := path10_len p n
    simp only [belowT, List.length_append]; omega
theorem innerB_snoc (x v : Int) (l : List Int) (j : Nat) (h : j < l.length) : innerB x v (l.take (j + 1)) = innerB x v (l.take j) ++ (if l.getD j 0 = x then [v] else []) := by
  have hg : l.getD j 0 = l[j] := by rw [List.getD_eq_getElem?_getD, List.getElem?_eq_getElem h]; rfl
  rw [hg]
  simp only [innerB, List.take_add_one, List.getElem?_eq_getElem h, List.filter_append, List.map_append, Option.toList_some]
  by_cases h' : l[j] = x <;> simp [h']
/-- The law, as its code computes it, over what is made of the numbers. -/
def tells (nb : Nat) (ls : List (Int × Int)) (p : List Int) (x : Int) : Bool :=
  let st := tellGo nb ls p p.length 0 (0, decide ((p.length : Int) = nb))
  decide (pathL p x = path10 p x) && decide (((pathL p x).length : Int) - 1 = ((path10 p x).length : Int) - 1) && decide (belowL p x = belowT p x p.length) && (spansL nb ls p == (st.2 && decide (st.1 = 1)))
theorem run_eqlB {P : Program} {T : TypeId} {xc yc : Bool} (hu : P.underlying T = some .bool) (a b : Bool) (w : World) : (semBin .eql T xc yc (.bool a) (.bool b)).run P w = .ok (.bool (a == b)) w := by
  have hg : (eqGuard .eql T (cond xc (.const (.bool a)) (.tmp 0)) (cond yc (.const (.bool b)) (.tmp 0)) (.bool a) (.bool b)).run P w = .ok () w := rfl
  unfold semBin
  rw [run_bind, hg]
  simp only [Result.andThen_ok, binOp]
  rw [run_bind, run_equal_bool w T a b hu]
  simp only [Result.andThen_ok, run_pure]
abbrev pC (b8 : Nat) (pv : Value) : List (Nat × Obj) := [(b8, .cells #[pv] 22 (0, 0))]
theorem Tells_spec {uv mv av : Value} {us ms ps : List Int} (br b : Int) (I : Imm) (H : PH) (h12 : ∀ nb : Nat, within br 1 7 = nb → ∀ a, (nearRaw nb a (graphL nb us ms)).length ≤ 12) (hg6 : ∀ nb : Nat, within br 1 7 = nb → (graphL nb us ms).length ≤ 1000000)
    (hu : Sl elInt (Bk I H) uv us) (hmm : Sl elInt (Bk I H) mv ms) (hps : Sl elInt (Bk I H) av ps) :
    CallA PP 3 [kgv br uv mv, av, vi b] I H (fun v I' H' => ∃ nb : Nat, within br 1 7 = nb ∧ v = .bool (tells nb (graphL nb us ms) (tellP ps) (within b (-1) 8))) := by
  obtain ⟨ua, uc, huv⟩ := hu.len
  obtain ⟨ma, mc, hmv⟩ := hmm.len
  refine CallA.fin (S3_ok ?_)
  refine mk_box (L := []) (ND.nil H) fun b3 hb3 hnd => ?_
  refine loW ty_24 hnd 0 rfl (by subst huv hmv; rfl) ?_
  rw [show Value.agg (kgv br uv mv).cells = kgv br uv mv from by subst huv hmv; rfl]
  have hs0 := upds_sub hnd
  refine c_call ((Graph_spec br I _ (hu.mono (Bk_sub hs0)) (hmm.mono (Bk_sub hs0))).mono ?_); rintro _ I1 _ hle1 ⟨rfl, nb, lv, hnb, rfl, hg⟩
  have hw := within_in br (lo := 1) (hi := 7) (by decide)
  rw [hnb] at hw
  obtain ⟨la, lc, hlv⟩ := hg.len
  refine mk_alloc zero_27 hnd fun b7 hb7 hnd => ?_
  refine stL ty_27 hnd 0 [(b7, .cells #[vi nb, lv] 27 (0, 0)), _] rfl (by subst hlv; rfl) (by decide) (by subst hlv; rfl) (by subst hlv; rfl) fun hnd => ?_
  refine mk_alloc zero_22 hnd fun b8 hb8 hnd => ?_
  have hsp : ND (pC b8 (.slice none 0 0) ++ [(b7, .cells #[vi nb, lv] 27 (0, 0)), (b3, _)]) H := hnd
  have hs := hsp.split
  have hsubB := upds_sub hs.2
  have hb7' := hs.2.get 0 rfl
  have hnd1 := hs.1
  rw [show upds ((b8, Obj.cells (Value.slice none 0 0).cells 22 (0, 0)) :: _) H = upds (pC b8 (.slice none 0 0)) (upds [(b7, .cells #[vi nb, lv] 27 (0, 0)), (b3, _)] H) from rfl]
  generalize upds [(b7, Obj.cells #[vi nb, lv] 27 (0, 0)), (b3, _)] H = HB at hsubB hb7' hnd1 ⊢
  clear hs hsp hnd hs0
  refine jq (fun vs I' H' => I' = I1 ∧ ∃ (pv : Value) (Lp : List (Nat × Obj)) (Hb : PH), RL enInt 3 pv (tellP ps) Lp ∧ Sub HB Hb ∧ ND (pC b8 pv ++ Lp) Hb ∧ H' = upds (pC b8 pv ++ Lp) Hb) (fun J hJ => ?_) ?_
  · refine loop_inv (fun n vs I' H' => I' = I1 ∧ ∃ (i : Nat) (pv : Value) (Lp : List (Nat × Obj)) (Hb : PH), nth vs 18 = vi i ∧ i ≤ min ps.length 8 ∧ n = min ps.length 8 - i ∧ RL enInt 3 pv ((ps.take i).map fun x => within x (-2) 7) Lp ∧ Sub HB Hb ∧ ND (pC b8 pv ++ Lp) Hb ∧ H' = upds (pC b8 pv ++ Lp) Hb) (min ps.length 8)
      ⟨rfl, 0, _, [], HB, rfl, by omega, rfl, .inl ⟨rfl, rfl, rfl⟩, .refl _, hnd1, rfl⟩ ?_
    rintro n vs I1 _ k hk ⟨rfl, i, pv, Lp, Hb, hi, hi8, hn, hrp, hsb, hnd, rfl⟩
    have hpr := hps.mono (Bk_lt hle1 (fun c o e => upds_sub hnd c o (hsb c o (hsubB c o e))))
    have stop : i = min ps.length 8 → ∀ vs, J vs I1 (upds (pC b8 pv ++ Lp) Hb) := fun e vs => hJ _ _ _ ⟨rfl, pv, Lp, Hb, by
      have : tellP ps = (ps.take i).map fun x => within x (-2) 7 := by
        rw [tellP, e]
        rcases Nat.le_total ps.length 8 with h | h
        · rw [Nat.min_eq_left h, List.take_of_length_le h, List.take_length]
        · rw [Nat.min_eq_right h]
      rw [this]; exact hrp, hsb, hnd, rfl⟩
    rw [hi]
    refine r_slen sl_22 hpr ?_
    refine p_gen (run_lss _ _) ?_
    by_cases h1 : (i : Int) < ps.length
    case neg =>
      refine g_skip (decide_eq_false h1) (g_skip (decide_eq_false h1) (p_pick_f (decide_eq_false h1) (if_f ?_)))
      exact stop (by omega) _
    refine g_do (decide_eq_true h1) (g_do (decide_eq_true h1) (p_gen (run_lss _ _) ?_))
    refine p_pick_t (decide_eq_true h1) ?_
    refine if_dec (fun h2 => ?_) (fun h2 => stop (by omega) _)
    have hx := nat_get (xs := ps) (i := i) (by omega)
    refine jn (keep_none ?_)
    refine p_iidx sl_22 ty_3 hpr (by omega) hx fun b' o' hat => ?_
    refine rd_own (lo1 (v := pv) ty_22 hnd 0 rfl rfl ?_)
    refine rd_own (r_at1 ty_3 hat ?_)
    refine cn_quiet (fun H _ => Within_spec _ (-2) 7 (by decide) (by decide) (by decide) I1 H) ?_; rintro _ I1 - ⟨rfl, rfl⟩
    refine mkD_lit (L := []) (H := none') [vi (within (ps.getD i 0) (-2) 7)] sl_22 ty_3 zero_3 rfl rfl rfl rfl (by simp) (by simp) (ND.nil _) fun b36 hb36 hnd36 => ?_
    refine apQ_RL row_22 (L := pC b8 pv ++ Lp) (L0 := pC b8 pv) (ys := [within (ps.getD i 0) (-2) 7]) (fun Lp' => pC b8 pv ++ Lp') hnd hrp List.perm_append_comm (fun _ => List.perm_append_comm) (fun H hs => sl_row (rest := []) (o := 0) (cap := 1) (xs := [within (ps.getD i 0) (-2) 7]) enInt (Or.inl (hs _ _ (hnd36.get 0 rfl))) (by simp)) (by simp; omega) (by decide) fun pv' Lp' hrp' hnd' hd' => ?_
    rw [← tellP_snoc ps i (by omega)] at hrp'
    obtain ⟨pa, pn, pc, hpv'⟩ := hrp'.val
    refine stQL ty_22 hnd' 0 (pC b8 pv' ++ Lp') rfl (by subst hpv'; rfl) (by simp) (by subst hpv'; rfl) (by subst hpv'; rfl) fun hnd2 hd2 => ?_
    refine in_upds hnd2 hd2 fun hnd3 => ?_
    refine p_add (by omega) (by omega) ?_
    exact hk (n - 1) _ _ _ (by omega) ⟨rfl, i + 1, pv', Lp', _, rfl, by omega, by omega, hrp', hsb.trans (sub_join _ _), hnd3, rfl⟩
  · rintro vs I1 _ ⟨rfl, pv, Lp, Hb, hrp, hsb, hnd, rfl⟩
    have hp := hrp.sl (I := I1) hnd (fun p hp => List.mem_append_right _ hp)
    have hgl : Sl elP (Bk I1 (upds (pC b8 pv ++ Lp) Hb)) lv (graphL nb us ms) := hg.mono (Im_Bk _ _)
    have hc8 := hnd.get 0 rfl
    have hc7 := upds_sub hnd _ _ (hsb _ _ hb7')
    have hsubC : Sub H (upds (pC b8 pv ++ Lp) Hb) := fun c o e => upds_sub hnd c o (hsb c o (hsubB c o e))
    clear hnd hrp hsb hnd1 hb7' hsubB
    generalize upds (pC b8 pv ++ Lp) Hb = HC at hp hgl hc8 hc7 hsubC ⊢
    have h12' := h12 nb hnb
    have hg6' := hg6 nb hnb
    generalize hls : graphL nb us ms = ls at hgl h12' hg6' hg ⊢
    have hlen8 : (tellP ps).length ≤ 8 := by rw [tellP_len]; omega
    generalize hpp : tellP ps = p at hp hlen8 ⊢
    refine c_call ((Within_spec b (-1) 8 (by decide) (by decide) (by decide) I1 _).mono ?_); rintro _ I1 HC - ⟨rfl, rfl, rfl⟩
    generalize within b (-1) 8 = X
    have rp : ∀ {I' : Imm} {H' : PH} {K : Value → Prop}, Sub HC H' → K pv → wRead PP (Instr.loadAt 22 (ptr b8 0)) I' H' K := fun hs h => ld1 (v := pv) ty_22 (.inl (hs _ _ hc8)) rfl h
    refine keep_all (p_gen (fld_27_0 _ _) ?_)
    refine rp (.refl _) (r_slen sl_22 hp ?_)
    refine ld1 (v := vi nb) ty_3 (.inl hc7) rfl ?_
    refine p_gen (run_eql _ _) (in_none ?_)
    refine rp (.refl _) (r_slen sl_22 hp ?_)
    refine jq (fun vs I' H' => I1.le I' ∧ ∃ (ov : Value) (st : Nat × Bool), nth vs 19 = ov ∧ nth vs 28 = vi st.1 ∧ nth vs 40 = .bool st.2 ∧ Ro enInt 3 HC H' ov (belowT p X p.length) ∧ st = tellGo nb ls p p.length 0 (0, decide ((p.length : Int) = nb))) (fun J hJ => ?_) ?_
    · refine loop_inv (fun n vs I' H' => I1.le I' ∧ ∃ (v : Nat) (ov : Value) (st : Nat × Bool), nth vs 50 = vi v ∧ v + n = p.length ∧ nth vs 19 = ov ∧ nth vs 28 = vi st.1 ∧ nth vs 40 = .bool st.2 ∧ st.1 ≤ v ∧ Ro enInt 3 HC H' ov (belowT p X v) ∧
          tellGo nb ls p n v st = tellGo nb ls p p.length 0 (0, decide ((p.length : Int) = nb))) p.length
        ⟨.refl _, 0, _, (0, _), rfl, by omega, rfl, rfl, rfl, by simp, Ro.nil _ _ _, rfl⟩ ?_
      rintro n vs I2 H2 k hk ⟨hle2, v, ov, st, hv, hn, hov, hst1, hst2, hsv, hr, hgo⟩
      rw [hv]
      refine p_gen (run_lss _ _) ?_
      refine if_dec (fun h1 => ?_) (fun h1 => ?_)
      case refine_2 =>
        have : n = 0 := by omega
        subst this
        have : v = p.length := by omega
        subst this
        exact hJ _ _ _ ⟨hle2, ov, st, hov, hst1, hst2, hr, hgo⟩
      obtain ⟨m, rfl⟩ : ∃ m, n = m + 1 := ⟨n - 1, by omega⟩
      rw [tellGo] at hgo
      refine c_clos ((path10_spec (b8 := b8) v I2 H2 (hr.sub _ _ hc8) (hp.mono (Bk_lt hle2 hr.sub))).mono ?_); rintro tv I3 H2 hle3 ⟨rfl, htv⟩
      refine r_slen sl_22 htv ?_
      have hle23 := hle2.trans hle3
      refine jq (fun vs I' H' => I' = I3 ∧ ∃ ov', nth vs 11 = ov' ∧ Ro enInt 3 HC H' ov' (belowT p X (v + 1))) (fun J2 hJ2 => ?_) ?_
      · refine loop_inv (fun n vs I' H' => I' = I3 ∧ ∃ (j : Nat) (ov' : Value), nth vs 13 = vi j ∧ nth vs 11 = ov' ∧ j + n = (path10 p v).length ∧ Ro enInt 3 HC H' ov' (belowT p X v ++ innerB X v ((path10 p v).take j))) (path10 p v).length
          ⟨rfl, 0, ov, rfl, hov, by omega, by simpa [innerB] using hr⟩ ?_
        rintro n vs I3 H4 k2 hk2 ⟨rfl, j, ov', hj, hov', hn2, hr4⟩
        rw [hj]
        refine p_gen (run_lss _ _) ?_
        refine if_dec (fun h2 => ?_) (fun h2 => ?_)
        case refine_2 =>
          have : j = (path10 p v).length := by omega
          subst this
          rw [List.take_length] at hr4
          exact hJ2 _ _ _ ⟨rfl, ov', hov', hr4⟩
        have hx2 := nat_get (xs := path10 p v) (i := j) (by omega)
        have hsn := innerB_snoc X v (path10 p v) j (by omega)
        have hpl := path10_len p v
        have hbl := belowT_len p X v
        have hil := innerB_len X v ((path10 p v).take j)
        have htl : ((path10 p v).take j).length ≤ 10 := by rw [List.length_take]; omega
        refine p_iidx sl_22 ty_3 (htv.mono (Im_Bk _ H4)) (by omega) hx2 fun b' o' hat => ?_
        refine r_at1 ty_3 hat ?_
        refine p_gen (run_eql _ _) ?_
        rw [hov']
        refine if_dec (fun h3 => ?_) (fun h3 => ?_)
        · rw [if_pos h3] at hsn
          refine mk_lit (L := []) (H := H4) [vi v] sl_22 ty_3 zero_3 rfl rfl rfl rfl (by simp) (by simp) (ND.nil H4) fun b15 hb15 hnd => ?_
          refine ap_en row_22 hr4 [(v : Int)] 1 hnd.top rfl rfl (by rw [List.length_append]; omega) (by decide) fun v' H5 hr5 => ?_
          refine p_add (by omega) (by omega) ?_
          exact hk2 (n - 1) _ _ _ (by omega) ⟨rfl, j + 1, v', rfl, rfl, by omega, by rw [hsn, ← List.append_assoc]; exact hr5⟩
        · rw [if_neg h3, List.append_nil] at hsn
          refine p_add (by omega) (by omega) ?_
          exact hk2 (n - 1) _ _ _ (by omega) ⟨rfl, j + 1, ov', rfl, rfl, by omega, by rw [hsn]; exact hr4⟩
      · rintro vs3 I3 H4 ⟨rfl, ov', hov', hr4⟩
        have hp4 := hp.mono (Bk_lt hle23 hr4.sub)
        have hxv := nat_get (xs := p) (i := v) (by omega)
        refine rp hr4.sub ?_
        refine p_iidx sl_22 ty_3 hp4 (by omega) hxv fun b' o' hat => ?_
        refine r_at1 ty_3 hat ?_
        refine p_gen (run_eql _ _) ?_
        refine jq (fun vs I' H' => I3.le I' ∧ H' = H4 ∧ ∃ (r : Nat) (sp : Bool), nth vs 14 = .bool sp ∧ nth vs 2 = vi r ∧ r ≤ v + 1 ∧ stepT nb ls p v st = (r, sp && decide (0 < (path10 p v).length))) (fun J3 hJ3 => ?_) ?_
        · rw [hst1, hst2]
          refine if_dec (fun h3 => ?_) (fun h3 => ?_)
          · refine p_add (by omega) (by omega) ?_
            exact hJ3 _ _ _ ⟨.refl _, rfl, st.1 + 1, st.2, rfl, rfl, by omega, by rw [stepT, if_pos h3]⟩
          · refine keep_all ?_
            have fin : ∀ (I4 : Imm) (sp : Bool) (vs' : List Value), I3.le I4 → sp = (st.2 && decide (p.getD v 0 ∈ nearL nb ls v)) → nth vs' 14 = .bool sp → nth vs' 2 = vi st.1 → J3 vs' I4 H4 :=
              fun I4 sp vs' h4 h5 h6 h7 => hJ3 _ _ _ ⟨h4, rfl, st.1, sp, h6, h7, by omega, by rw [stepT, if_neg h3, h5]⟩
            cases hs2 : st.2
            · iterate 8 refine gD_skip rfl ?_
              refine p_pick_f rfl (in_none (jn (if_f ?_)))
              exact fin _ false _ (.refl _) (by rw [hs2]; rfl) rfl rfl
            · refine gD_do rfl (gD_do rfl (gD_do rfl (r_whole ty_27 (.inl (hr4.sub _ _ hc7)) rfl ?_)))
              refine gD_do rfl (rp hr4.sub ?_)
              refine gD_do rfl (p_iidx sl_22 ty_3 hp4 (by omega) hxv fun b' o' hat => ?_)
              refine gD_do rfl (r_at1 ty_3 hat ?_)
              refine gD_do rfl (cq_quiet (fun H _ => Linked_spec v (p.getD v 0) (h12' _) hg6' I3 H (hg.im (hle23) H)) ?_); rintro _ I4 hle4 rfl
              refine gD_do rfl (p_not ?_)
              refine p_pick_t rfl (in_none ?_)
              by_cases h5 : p.getD v 0 ∈ nearL nb ls v
              · refine jn (if_0 (by rw [decide_eq_true h5]; rfl) ?_)
                exact fin _ true _ hle4 (by rw [hs2, decide_eq_true h5]; rfl) rfl rfl
              · refine jn (if_1 (by rw [decide_eq_false h5]; rfl) ?_)
                exact fin _ false _ hle4 (by rw [hs2, decide_eq_false h5]; rfl) rfl rfl
        · rintro vs4 I4 H4 ⟨hle4, rfl, r, sp, hsp, hr2, hrv, hstep⟩
          rw [hsp]
          rw [hstep] at hgo
          have hle24 := hle23.trans hle4
          have fin : ∀ (I5 : Imm) (vs' : List Value), I4.le I5 → nth vs' 50 = vi (v + 1) → nth vs' 19 = ov' → nth vs' 28 = vi r → nth vs' 40 = .bool (sp && decide (0 < (path10 p v).length)) → k vs' I5 H4 :=
            fun I5 vs' g1 g2 g3 g4 g5 => hk m _ _ _ (by omega) ⟨hle24.trans g1, v + 1, ov', (r, _), g2, by omega, g3, g4, g5, hrv, hr4, hgo⟩
          cases sp
          · iterate 5 refine g_skip rfl ?_
            refine p_pick_f rfl (p_add (by omega) (by omega) ?_)
            exact fin I4 _ (.refl _) rfl hov' hr2 rfl
          · refine g_do rfl (g_do rfl (g_do rfl ?_))
            refine c_clos ((path10_spec (b8 := b8) v I4 H4 (hr4.sub _ _ hc8) (hp.mono (Bk_lt hle24 hr4.sub))).mono ?_); rintro tw I5 H4 hle5 ⟨rfl, htw⟩
            refine g_do rfl (r_slen sl_22 htw ?_)
            refine g_do rfl (p_gen (run_gtr _ _) ?_)
            refine p_pick_t rfl (p_add (by omega) (by omega) ?_)
            refine fin I5 _ hle5 rfl hov' hr2 ?_
            show Value.bool _ = Value.bool _
            rw [Bool.true_and]
            exact congrArg _ (decide_eq_decide.2 ⟨fun h => by omega, fun h => by omega⟩)
    · rintro vs2 I2 H2 ⟨hle2, ov, st, hov, hst1, hst2, hr, hgo⟩
      have hend : ∀ (I3 : Imm) (c : Bool), c = tells nb ls p X → (Dj I3 H2 → ∃ I4 H4, (∀ w, Sat I3 H2 w → Sat I4 H4 w) ∧ I3.le I4 ∧ ∃ nb' : Nat, within br 1 7 = nb' ∧ Value.bool c = .bool (tells nb' (graphL nb' us ms) p X)) :=
        fun I3 c hc _ => ⟨I3, H, fun w hw => hw.less (fun x o e => hr.sub x o (hsubC x o e)), .refl _, nb, hnb, by rw [hls, hc]⟩
      have hp2 := hp.mono (Bk_lt hle2 hr.sub)
      refine rp hr.sub ?_
      refine c_call ((Path_spec (by omega) X I2 H2 hp2).mono ?_); rintro tv I3 H2 hle3 ⟨rfl, htv⟩
      have hle3' := hle2.trans hle3
      refine c_clos ((path10_spec (b8 := b8) X I3 H2 (hr.sub _ _ hc8) (hp.mono (Bk_lt hle3' hr.sub))).mono ?_); rintro tw I4 H2 hle4 ⟨rfl, htw⟩
      have hle4' := hle3'.trans hle4
      have hpl := pathL_len p X
      refine c_call ((Same_spec I4 H2 (by omega) (htv.im hle4 H2) (htw.im (.refl _) H2)).mono ?_); rintro _ I4 H2 - ⟨rfl, rfl, rfl⟩
      have lt : ∀ (I5 : Imm), I4.le I5 → Sl elInt (Bk I5 H2) pv p := fun I5 h => hp.mono (Bk_lt (hle4'.trans h) hr.sub)
      by_cases e1 : pathL p X = path10 p X
      case neg =>
        iterate 9 refine g_skip (decide_eq_false e1) ?_
        refine p_pick_f (decide_eq_false e1) ?_
        iterate 5 refine g_skip rfl ?_
        refine p_pick_f rfl ?_
        iterate 5 refine g_skip rfl ?_
        refine g_no (g_no (g_skip rfl (g_skip rfl (p_pick_f rfl ?_))))
        refine g_skip rfl (p_pick_f rfl ?_)
        exact hend _ false (by simp only [tells, decide_eq_false e1, Bool.false_and])
      have t1 := decide_eq_true e1
      have hpl10 := path10_len p X
      refine g_do t1 (rp hr.sub ?_)
      refine g_do t1 (g_do t1 ?_)
      refine c_call ((Depth_spec (by omega) X I4 H2 (lt I4 (.refl _))).mono ?_); rintro _ I5 H2 hle5 ⟨rfl, rfl⟩
      refine g_do t1 (g_do t1 (g_do t1 ?_))
      refine c_clos ((path10_spec (b8 := b8) X I5 H2 (hr.sub _ _ hc8) (lt I5 hle5)).mono ?_); rintro tz I6 H2 hle6 ⟨rfl, htz⟩
      refine g_do t1 (r_slen sl_22 htz ?_)
      refine g_do t1 (p_sub (by omega) (by omega) ?_)
      refine g_do t1 (p_gen (run_eql _ _) (p_pick_t t1 ?_))
      have t2 : decide (((pathL p X).length : Int) - 1 = ((path10 p X).length : Int) - 1) = true := by rw [e1]; exact decide_eq_true rfl
      refine g_do t2 (rp hr.sub ?_)
      refine g_do t2 (g_do t2 ?_)
      refine c_call ((Below_spec (by omega) X I6 H2 (lt I6 (hle5.trans hle6))).mono ?_); rintro tb I7 H2 hle7 ⟨rfl, htb⟩
      have hle57 := (hle5.trans hle6).trans hle7
      have hbl := ints_len (fun x => decide (X ∈ pathL p x)) p.length
      refine g_do t2 ?_
      rw [hov]
      refine g_do t2 ?_
      refine c_call ((Same_spec I7 H2 (xs := belowL p X) (by rw [belowL]; omega) (htb.im (.refl _) H2) (hr.sl (B := Bk I7 H2) (fun _ _ h => .inl h))).mono ?_); rintro _ I7 H2 - ⟨rfl, rfl, rfl⟩
      refine p_pick_t t2 ?_
      by_cases e3 : belowL p X = belowT p X p.length
      case neg =>
        iterate 5 refine g_skip (decide_eq_false e3) ?_
        refine g_no (g_no (g_skip (decide_eq_false e3) (g_skip (decide_eq_false e3) (p_pick_f (decide_eq_false e3) ?_))))
        refine g_skip rfl (p_pick_f rfl ?_)
        exact hend _ false (by simp only [tells, decide_eq_false e3, Bool.and_false, Bool.false_and])
      have t3 := decide_eq_true e3
      refine g_do t3 (r_whole ty_27 (.inl (hr.sub _ _ hc7)) rfl ?_)
      refine g_do t3 (rp hr.sub ?_)
      refine g_do t3 ?_
      refine c_call ((Spans_spec h12' hg6' (by omega) I7 H2 (hg.im ((hle4'.trans hle57)) H2) (lt I7 hle57)).mono ?_); rintro _ I8 H2 hle8 ⟨rfl, rfl⟩
      rw [hst1, hst2]
      refine g_do t3 (g_do t3 ?_)
      have tail : ∀ c : Bool, c = (st.2 && decide (st.1 = 1)) → ∀ K : Value → Prop, K (.bool (spansL nb ls p == c)) → wPure PP (semBin .eql 4 false false (.bool (spansL nb ls p)) (.bool c)) K := fun c _ K hK => p_gen (run_eqlB (by kernel_rfl) _ _) hK
      have val : tells nb ls p X = (spansL nb ls p == (st.2 && decide (st.1 = 1))) := by
        simp only [tells, t1, t2, t3, Bool.true_and, ← hgo]
      have last : ∀ c : Bool, tells nb ls p X = c → wGuard (.bool c) true (fun k => wCall PP (vf 14) [] I8 H2 k) (fun t131 I H => wPure PP (semPick (.bool c) t131 (vb false)) fun v => Dj I H → ∃ I2 H2, (∀ w, Sat I H w → Sat I2 H2 w) ∧ I.le I2 ∧ ∃ nb' : Nat, within br 1 7 = nb' ∧ v = .bool (tells nb' (graphL nb' us ms) p X)) I8 H2 := by
        intro c hc
        cases c
        · exact g_skip rfl (p_pick_f rfl (hend I8 false hc.symm))
        · refine g_do rfl ?_
          refine c_call ((TreesRuns_spec I8 H2).mono ?_); rintro _ I9 H2 - ⟨rfl, rfl⟩
          exact p_pick_t rfl (hend I9 true hc.symm)
      cases hs2 : st.2
      · refine g_skip rfl (g_skip rfl ?_)
        refine g_do t3 (p_pick_f rfl ?_)
        refine g_do t3 (p_gen (run_eqlB (by kernel_rfl) _ _) (p_pick_t t3 ?_))
        exact last _ (by rw [val, hs2]; rfl)
      · refine g_do rfl (g_do rfl (p_gen (run_eql _ _) ?_))
        refine g_do t3 (p_pick_t rfl ?_)
        refine g_do t3 (p_gen (run_eqlB (by kernel_rfl) _ _) (p_pick_t t3 ?_))
        refine last _ ?_
        rw [val, hs2, Bool.true_and]
        exact congrArg _ (decide_eq_decide.2 ⟨fun h => by omega, fun h => by omega⟩)
end Go.Proofs.Ytibgbapeblicjaa
