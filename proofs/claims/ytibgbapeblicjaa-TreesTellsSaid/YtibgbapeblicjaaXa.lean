/- Comparing numbers and IDs. -/
import Derived.Test.YtibgbapeblicjaaWt
set_option linter.unusedVariables false
namespace Go.Proofs.Ytibgbapeblicjaa
open Go
set_option maxRecDepth 100000
/- cmp.isNaN[int] -/
def S107 (a0 : Value) (I : Imm) (H : PH) (R : KV) : Prop :=
  wPure PP (semBin .neq 3 false false a0 a0) fun t5 =>
  R t5 I H
theorem S107_eq (a0 : Value) (I : Imm) (H : PH) (R : KV) : WF PP [] Try.f107 [a0] I H R = S107 a0 I H R := by kernel_rfl
theorem S107_ok {a0 : Value} {I : Imm} {H : PH} {R : KV} (h : S107 a0 I H R) : CallA PP 107 [a0] I H R :=
  WF.ok (P := PP) (f := 107) (fn := Try.f107) (ord := []) (args := [a0]) follows Try.func107 (by kernel_rfl) (by kernel_rfl) (by kernel_rfl) ((S107_eq a0 I H R).mpr h)

/- cmp.Compare[int] -/
def S83 (a0 a1 : Value) (I : Imm) (H : PH) (R : KV) : Prop :=
  wCall PP (vf 107) [a0] I H fun t8 I H =>
  wCall PP (vf 107) [a1] I H fun t10 I H =>
  wIf t8 (
    wIf t10 (
      R (vi 0) I H) (
    R (vi (-1)) I H)) (
  wIf t10 (
    R (vi 1) I H) (
  wPure PP (semBin .lss 3 false false a0 a1) fun t16 =>
  wIf t16 (
    R (vi (-1)) I H) (
  wPure PP (semBin .gtr 3 false false a0 a1) fun t19 =>
  wIf t19 (
    R (vi 1) I H) (
  R (vi 0) I H))))
theorem S83_eq (a0 a1 : Value) (I : Imm) (H : PH) (R : KV) : WF PP [] Try.f83 [a0, a1] I H R = S83 a0 a1 I H R := by kernel_rfl
theorem S83_ok {a0 a1 : Value} {I : Imm} {H : PH} {R : KV} (h : S83 a0 a1 I H R) : CallA PP 83 [a0, a1] I H R :=
  WF.ok (P := PP) (f := 83) (fn := Try.f83) (ord := []) (args := [a0, a1]) follows Try.func83 (by kernel_rfl) (by kernel_rfl) (by kernel_rfl) ((S83_eq a0 a1 I H R).mpr h)

/- cmp.Or[int] -/
def S55 (a0 : Value) (I : Imm) (H : PH) (R : KV) : Prop :=
  wRead PP (Builtin.len_ #[22] 3 #[a0]) I H fun t7 =>
  wJ (fun J =>
    wLoop (fun kc vs_1 I H =>
      wPure PP (semBin .lss 3 false false (nth vs_1 10) t7) fun t9 =>
      wIf t9 (
        wJ (fun J_1 =>
          wPure PP (Instr.indexAt 22 a0 (nth vs_1 10)) fun t10 =>
          wRead PP (Instr.loadAt 3 t10) I H fun t11 =>
          wPure PP (semBin .neq 3 false false t11 (vi 0)) fun t14 =>
          wIf t14 (
            R t11 I H) (
          J_1 [t10, t11, t11, t11, (vi 0), t14, (nth vs_1 7), (nth vs_1 8)] I H))
        (fun vs_2 I H =>
        wPure PP (semBin .add 3 false true (nth vs_1 10) (vi 1)) fun t16 =>
        kc [t9, (nth vs_2 0), (nth vs_2 1), (nth vs_2 2), (nth vs_2 3), (nth vs_2 4), (nth vs_2 5), (nth vs_2 6), (nth vs_2 7), t16, t16] I H)) (
        J [t9, (nth vs_1 1), (nth vs_1 2), (nth vs_1 3), (nth vs_1 4), (nth vs_1 5), (nth vs_1 6), (nth vs_1 7), (nth vs_1 8), (nth vs_1 9), (nth vs_1 10)] I H))
      [undef, undef, undef, undef, undef, undef, undef, undef, (vi 0), undef, (vi 0)] I H)
  (fun vs I H =>
  R (vi 0) I H)
theorem S55_eq (a0 : Value) (I : Imm) (H : PH) (R : KV) : WF PP [] Try.f55 [a0] I H R = S55 a0 I H R := by kernel_rfl
theorem S55_ok {a0 : Value} {I : Imm} {H : PH} {R : KV} (h : S55 a0 I H R) : CallA PP 55 [a0] I H R :=
  WF.ok (P := PP) (f := 55) (fn := Try.f55) (ord := []) (args := [a0]) follows Try.func55 (by kernel_rfl) (by kernel_rfl) (by kernel_rfl) ((S55_eq a0 I H R).mpr h)

/- broadside/adverts.compare -/
def S36 (a0 a1 : Value) (I : Imm) (H : PH) (R : KV) : Prop :=
  wMake PP (Instr.box 43 a0) I H fun t2 H =>
  wMake PP (Instr.box 43 a1) I H fun t3 H =>
  wKeep H fun Hs Ha =>
  wPure PP (Instr.fieldAt 43 t2 0) fun t5 =>
  wPure PP (Instr.fieldAt 43 t3 0) fun t7 =>
  wPure PP (Instr.fieldAt 43 t2 1) fun t10 =>
  wPure PP (Instr.fieldAt 43 t3 1) fun t12 =>
  wRead PP (Instr.loadAt 3 t5) I Hs fun t6 =>
  wRead PP (Instr.loadAt 3 t7) I Hs fun t8 =>
  wRead PP (Instr.loadAt 3 t10) I Hs fun t11 =>
  wRead PP (Instr.loadAt 3 t12) I Hs fun t13 =>
  wCallQ PP (vf 83) [t6, t8] I Hs Ha fun t9 I Ha =>
  wCallQ PP (vf 83) [t11, t13] I Hs Ha fun t14 I Ha =>
  wMakeD PP (Instr.buildSlice 22 2 #[(0, t9), (1, t14)]) I Hs Ha fun t15 Hs =>
  wCallQ PP (vf 55) [t15] I Hs Ha fun t16 I Ha =>
  wIn I (join Hs Ha) fun I H =>
  R t16 I H
theorem S36_eq (a0 a1 : Value) (I : Imm) (H : PH) (R : KV) : WF PP [[], [0, 2, 5, 7, 1, 3, 6, 8, 4, 9, 10, 11, 12]] Try.f36 [a0, a1] I H R = S36 a0 a1 I H R := by kernel_rfl
theorem S36_ok {a0 a1 : Value} {I : Imm} {H : PH} {R : KV} (h : S36 a0 a1 I H R) : CallA PP 36 [a0, a1] I H R :=
  WF.ok (P := PP) (f := 36) (fn := Try.f36) (ord := [[], [0, 2, 5, 7, 1, 3, 6, 8, 4, 9, 10, 11, 12]]) (args := [a0, a1]) follows Try.func36 (by kernel_rfl) (by kernel_rfl) (by kernel_rfl) ((S36_eq a0 a1 I H R).mpr h)


theorem isNaN_spec (n : Int) (I : Imm) (H : PH) : CallA PP 107 [vi n] I H (fun v I' H' => H' = H ∧ I' = I ∧ v = .bool false) := by
  refine S107_ok ?_
  refine p_gen (run_neq n n) ?_
  simp

def cmpI (a b : Int) : Int := if a < b then -1 else if b < a then 1 else 0
theorem Compare_spec (a b : Int) (I : Imm) (H : PH) : CallA PP 83 [vi a, vi b] I H (fun v I' H' => H' = H ∧ I' = I ∧ v = vi (cmpI a b)) := by
  refine S83_ok ?_
  refine c_call ((isNaN_spec a I H).mono ?_); rintro _ _ _ - ⟨rfl, rfl, rfl⟩
  refine c_call ((isNaN_spec b _ _).mono ?_); rintro _ _ _ - ⟨rfl, rfl, rfl⟩
  refine if_f (if_f ?_)
  refine p_gen (run_lss a b) ?_
  refine if_dec (fun h => ⟨rfl, rfl, by simp [cmpI, h]⟩) fun h => ?_
  refine p_gen (run_gtr a b) ?_
  exact if_dec (fun h' => ⟨rfl, rfl, by simp [cmpI, h, h']⟩) fun h' => ⟨rfl, rfl, by simp [cmpI, h, h']⟩

def orI : List Int → Int
  | [] => 0
  | x :: l => if x ≠ 0 then x else orI l
theorem orI_drop : ∀ (xs : List Int) (i : Nat), (∀ j, j < i → xs[j]? = some 0) → orI xs = orI (xs.drop i)
  | _, 0, _ => rfl
  | [], i + 1, h => by have := h 0 (by omega); simp at this
  | x :: xs, i + 1, h => by
    have h0 := h 0 (by omega)
    simp at h0; subst h0
    simp only [orI, List.drop_succ_cons]
    exact orI_drop xs i fun j hj => by simpa using h (j + 1) (by omega)
theorem Or_spec {v : Value} {xs : List Int} (hl : xs.length < 4611686018427387904) (I : Imm) (H : PH) (hs : Sl elInt (Bk I H) v xs) :
    CallA PP 55 [v] I H (fun v I' H' => H' = H ∧ I' = I ∧ v = vi (orI xs)) := by
  refine S55_ok ?_
  refine r_slen sl_22 hs ?_
  simp only [wJ]
  refine loop_inv (fun n vs I' H' => I' = I ∧ H' = H ∧ ∃ i : Nat, nth vs 10 = vi i ∧ i ≤ xs.length ∧ n = xs.length - i ∧ ∀ j, j < i → xs[j]? = some 0) xs.length
    ⟨rfl, rfl, 0, rfl, by omega, by omega, fun j hj => by omega⟩ ?_
  rintro n vs _ _ k hk ⟨rfl, rfl, i, hv, hi, hn, hz⟩
  rw [hv]
  refine p_gen (run_lss _ _) ?_
  refine if_dec (fun h => ?_) (fun h => ?_)
  · have hx : xs[(i : Int).toNat]? = some xs[i] := by simp
    refine p_sidx sl_22 ty_3 rfl hs (by omega) hx fun b o hel => ?_
    obtain ⟨cs, hat, rfl⟩ := hel
    refine r_at1 ty_3 hat ?_
    refine p_gen (run_neq _ _) ?_
    refine if_ndec (fun h0 => ?_) (fun h0 => ?_)
    · refine ⟨rfl, rfl, ?_⟩
      rw [orI_drop xs i hz, List.drop_eq_getElem_cons (by omega)]
      simp [orI, h0]
    · refine p_add (by omega) (by omega) ?_
      refine hk (n - 1) _ _ _ (by omega) ⟨rfl, rfl, i + 1, by simp [nth], by omega, by omega, fun j hj => ?_⟩
      by_cases e : j = i
      · subst e; simp [h0] at hx ⊢; omega
      · exact hz j (by omega)
  · refine ⟨rfl, rfl, ?_⟩
    rw [orI_drop xs i hz, List.drop_eq_nil_of_le (by omega)]; rfl

def cmpID (a b : ID) : Int := orI [cmpI a.c b.c, cmpI a.s b.s]
abbrev idv (a : ID) : Value := .agg #[vi a.c, vi a.s]
theorem compare_spec (a b : ID) (I : Imm) (H : PH) : CallA PP 36 [idv a, idv b] I H (fun v I' H' => H' = H ∧ I' = I ∧ v = vi (cmpID a b)) := by
  refine CallA.post (S36_ok ?_)
  change S36 _ _ I (upds [] H) _
  have hnd := ND.nil H
  refine mk_box hnd fun b2 hb2 hnd => ?_
  refine mk_box hnd fun b3 hb3 hnd => ?_
  refine keep_all ?_
  refine p_gen (fld_43_0 _ _) (p_gen (fld_43_0 _ _) (p_gen (fld_43_1 _ _) (p_gen (fld_43_1 _ _) ?_)))
  refine lo1 ty_3 hnd 1 rfl rfl (lo1 ty_3 hnd 0 rfl rfl (lo1 ty_3 hnd 1 rfl rfl (lo1 ty_3 hnd 0 rfl rfl ?_)))
  refine cq_quiet (fun H _ => (Compare_spec a.c b.c I H)) ?_; rintro _ _ - ⟨rfl, rfl⟩
  refine cq_quiet (fun H _ => (Compare_spec a.s b.s _ H)) ?_; rintro _ _ - ⟨rfl, rfl⟩
  refine mkD_lit [vi (cmpI a.c b.c), vi (cmpI a.s b.s)] sl_22 ty_3 zero_3 rfl rfl rfl rfl (by simp) (by simp) hnd fun b15 hb15 hnd => ?_
  refine cq_quiet (fun H hsub => Or_spec (xs := [cmpI a.c b.c, cmpI a.s b.s]) (by simp) _ H (Sl.lit (Bk_own (hsub _ _ (hnd.get 0 rfl))) 2 2 rfl (by omega) 0 (two ⟨_, lit_at [] _ [_] rfl rfl, rfl⟩ ⟨_, lit_at [_] _ [] rfl rfl, rfl⟩))) ?_
  rintro _ _ - ⟨rfl, rfl⟩
  refine in_none ?_
  exact ⟨_, _, ends hnd, .refl _, rfl, rfl, rfl⟩
end Go.Proofs.Ytibgbapeblicjaa
