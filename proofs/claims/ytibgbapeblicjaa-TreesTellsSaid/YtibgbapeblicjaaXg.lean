/- TreesRuns; rings and other odd rows of parents. -/
import Derived.Test.YtibgbapeblicjaaXf
import Derived.Test.YtibgbapeblicjaaWl
set_option linter.unusedVariables false
namespace Go.Proofs.Ytibgbapeblicjaa
open Go
set_option maxRecDepth 100000
/- broadside/broadsidelaw21.TreesRuns -/
def S14 (I : Imm) (H : PH) (R : KV) : Prop :=
  wMake PP (Instr.buildSlice 22 3 #[(0, (vi (-1))), (1, (vi 0)), (2, (vi 1))]) I H fun t2 H =>
  wCall PP (vf 10) [t2, (vi 2)] I H fun t4 I H =>
  wMake PP (Instr.buildSlice 22 3 #[(0, (vi 2)), (1, (vi 1)), (2, (vi 0))]) I H fun t5 H =>
  wCall PP (vf 9) [t4, t5] I H fun t6 I H =>
  wGuard t6 true (fun k => k t2 I H) (fun t8 I H =>
  wGuard t6 true (fun k => wCall PP (vf 11) [t8, (vi 2)] I H k) (fun t9 I H =>
  wGuard t6 true (fun k => wPure PP (semBin .eql 3 false true t9 (vi 2)) fun v => k v I H) (fun t10 I H =>
  wPure PP (semPick t6 t10 (vb false)) fun t11 =>
  wGuard t11 true (fun k => k t2 I H) (fun t13 I H =>
  wGuard t11 true (fun k => wCall PP (vf 12) [t13, (vi 1)] I H k) (fun t14 I H =>
  wGuard t11 true (fun k => wMake PP (Instr.buildSlice 22 2 #[(0, (vi 1)), (1, (vi 2))]) I H fun v H => k v I H) (fun t15 I H =>
  wGuard t11 true (fun k => wCall PP (vf 9) [t14, t15] I H k) (fun t16 I H =>
  wPure PP (semPick t11 t16 (vb false)) fun t17 =>
  wGuard t17 true (fun k => wPure PP (Instr.build 61 #[(0, (vi 0)), (1, (vi 1))]) fun v => k v I H) (fun t19 I H =>
  wGuard t17 true (fun k => wPure PP (Instr.build 61 #[(0, (vi 1)), (1, (vi 2))]) fun v => k v I H) (fun t20 I H =>
  wGuard t17 true (fun k => wMake PP (Instr.buildSlice 25 2 #[(0, t19), (1, t20)]) I H fun v H => k v I H) (fun t21 I H =>
  wGuard t17 true (fun k => wPure PP (Instr.build 27 #[(0, (vi 3)), (1, t21)]) fun v => k v I H) (fun t22 I H =>
  wGuard t17 true (fun k => k t2 I H) (fun t23 I H =>
  wGuard t17 true (fun k => wCall PP (vf 13) [t22, t23] I H k) (fun t24 I H =>
  wPure PP (semPick t17 t24 (vb false)) fun t25 =>
  wGuard t25 true (fun k => wMake PP (Instr.buildSlice 22 2 #[(0, (vi 1)), (1, (vi 0))]) I H fun v H => k v I H) (fun t27 I H =>
  wGuard t25 true (fun k => wCall PP (vf 10) [t27, (vi 0)] I H k) (fun t28 I H =>
  wGuard t25 true (fun k => wRead PP (Builtin.len_ #[22] 3 #[t28]) I H fun v => k v I H) (fun t29 I H =>
  wGuard t25 true (fun k => wPure PP (semBin .eql 3 false true t29 (vi 0)) fun v => k v I H) (fun t30 I H =>
  wPure PP (semPick t25 t30 (vb false)) fun t31 =>
  R t31 I H) I H) I H) I H) I H) I H) I H) I H) I H) I H) I H) I H) I H) I H) I H) I H) I H) I H
theorem S14_eq (I : Imm) (H : PH) (R : KV) : WF PP [] Try.f14 [] I H R = S14 I H R := by kernel_rfl
theorem S14_ok {I : Imm} {H : PH} {R : KV} (h : S14 I H R) : CallA PP 14 [] I H R :=
  WF.ok (P := PP) (f := 14) (fn := Try.f14) (ord := []) (args := []) follows Try.func14 (by kernel_rfl) (by kernel_rfl) (by kernel_rfl) ((S14_eq I H R).mpr h)


theorem nearRaw_le (nb b : Int) : ∀ ls : List (Int × Int), (nearRaw nb b ls).length ≤ ls.length
  | [] => by simp [nearRaw]
  | x :: ls => by
    have := nearRaw_le nb b ls
    have h1 : (nearOf nb b x).length ≤ 1 := by unfold nearOf; split <;> (try split) <;> (try split) <;> simp
    simp only [nearRaw, List.flatMap_cons, List.length_append, List.length_cons] at this ⊢
    omega
/-- the ints of a literal among the own blocks -/
theorem lit_sl {L : List (Nat × Obj)} {H : PH} {I : Imm} {b n : Nat} {vs : List Value} (xs : List Int) (hnd : ND L H) (hm : (b, .cells vs.toArray 3 (0, 0)) ∈ L) (hv : vs = encs enInt xs) (hn : xs.length = n) : Sl elInt (Bk I (upds L H)) (slv b 0 n n) xs := by
  subst hn hv
  exact sl_row (rest := []) (o := 0) enInt (.inl (by have := hnd.mem hm; simpa [rowA] using this)) (Nat.le_refl _)

theorem TreesRuns_spec (I : Imm) (H : PH) : CallA PP 14 [] I H (fun v I' H' => H' = H ∧ v = .bool true) := by
  refine CallA.post (S14_ok ?_)
  have hnd := ND.nil H
  refine mk_lit (L := []) [vi (-1), vi 0, vi 1] sl_22 ty_3 zero_3 rfl rfl rfl rfl (by simp) (by simp) hnd fun b1 hb1 hnd => ?_
  have hp : ∀ {L I2}, ND L H → (b1, .cells (flatC [vi (-1), vi 0, vi 1]).toArray 3 (0, 0)) ∈ L → Sl elInt (Bk I2 (upds L H)) (slv b1 0 3 3) [-1, 0, 1] := fun hnd hm => lit_sl [-1, 0, 1] hnd hm rfl rfl
  refine c_call ((Path_spec (by simp) 2 I _ (hp hnd (.head _))).mono ?_); rintro v I1 _ hl1 ⟨rfl, h1⟩
  refine mk_lit (L := [_]) [vi 2, vi 1, vi 0] sl_22 ty_3 zero_3 rfl rfl rfl rfl (by simp) (by simp) hnd fun b2 hb2 hnd => ?_
  refine c_call ((Same_spec I1 _ (Nat.le_of_ble_eq_true (by kernel_rfl)) (h1.mono (Im_Bk _ _)) (lit_sl [2, 1, 0] hnd (.head _) rfl rfl)).mono ?_); rintro v I1 _ - ⟨rfl, rfl, rfl⟩
  have e1 : decide (pathL [-1, 0, 1] 2 = [2, 1, 0]) = true := by kernel_rfl
  rw [e1]
  refine g_do rfl (g_do rfl ?_)
  refine c_call ((Depth_spec (by simp) 2 I1 _ (hp hnd (.tail _ (.head _)))).mono ?_); rintro v I2 _ hl2 ⟨rfl, rfl⟩
  have e2 : ((pathL [-1, 0, 1] 2).length : Int) - 1 = 2 := by kernel_rfl
  rw [e2]
  refine g_do rfl (p_gen (run_eql _ _) (p_pick_t rfl ?_))
  refine g_do rfl (g_do rfl ?_)
  refine c_call ((Below_spec (by simp) 1 I2 _ (hp hnd (.tail _ (.head _)))).mono ?_); rintro v I3 _ hl3 ⟨rfl, h3⟩
  refine g_do rfl ?_
  refine mk_lit (L := [_, _]) [vi 1, vi 2] sl_22 ty_3 zero_3 rfl rfl rfl rfl (by simp) (by simp) hnd fun b4 hb4 hnd => ?_
  refine g_do rfl ?_
  refine c_call ((Same_spec I3 _ (Nat.le_of_ble_eq_true (by kernel_rfl)) (h3.mono (Im_Bk _ _)) (lit_sl [1, 2] hnd (.head _) rfl rfl)).mono ?_); rintro v I3 _ - ⟨rfl, rfl, rfl⟩
  have e3 : decide (belowL [-1, 0, 1] 1 = [1, 2]) = true := by kernel_rfl
  rw [e3]
  refine p_pick_t rfl ?_
  refine g_do rfl (p_build #[vi 0, vi 1] (by kernel_rfl) ?_)
  refine g_do rfl (p_build #[vi 1, vi 2] (by kernel_rfl) ?_)
  refine g_do rfl ?_
  refine mk_lit (L := [_, _, _]) [lkv (0, 1), lkv (1, 2)] sl_25 ty_61 zero_61 rfl rfl rfl rfl (by simp) (by simp) hnd fun b5 hb5 hnd => ?_
  refine g_do rfl (p_build #[vi 3, slv b5 0 2 2] (by kernel_rfl) ?_)
  refine g_do rfl (g_do rfl ?_)
  have hg : Sl elP (Bk I3 (upds _ H)) (slv b5 0 2 2) [(0, 1), (1, 2)] :=
    sl_row (rest := []) (o := 0) (cap := 2) (xs := [(0, 1), (1, 2)]) enP (Or.inl (hnd.mem (.head _))) (by decide)
  refine c_call ((Spans_spec (fun a => Nat.le_trans (nearRaw_le _ _ _) (by simp)) (by simp) (by simp) I3 _ hg (hp hnd (.tail _ (.tail _ (.tail _ (.head _)))))).mono ?_); rintro v I4 _ hl4 ⟨rfl, rfl⟩
  have e4 : spansL 3 [(0, 1), (1, 2)] [-1, 0, 1] = true := by kernel_rfl
  rw [e4]
  refine p_pick_t rfl ?_
  refine g_do rfl ?_
  refine mk_lit (L := [_, _, _, _]) [vi 1, vi 0] sl_22 ty_3 zero_3 rfl rfl rfl rfl (by simp) (by simp) hnd fun b6 hb6 hnd => ?_
  refine g_do rfl ?_
  refine c_call ((Path_spec (by simp) 0 I4 _ (lit_sl [1, 0] hnd (.head _) rfl rfl)).mono ?_); rintro v I5 _ hl5 ⟨rfl, h5⟩
  refine g_do rfl (r_slen sl_22 h5 ?_)
  have e5 : ((pathL [1, 0] 0).length : Int) = 0 := by kernel_rfl
  rw [e5]
  refine g_do rfl (p_gen (run_eql _ _) (p_pick_t rfl ?_))
  exact ⟨_, _, ends hnd, .refl _, rfl, rfl⟩

end Go.Proofs.Ytibgbapeblicjaa
