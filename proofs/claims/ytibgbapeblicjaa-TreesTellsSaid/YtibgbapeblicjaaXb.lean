/- Numbers brought into bounds; lists of ints searched and compared; links of graphs. -/
import Derived.Test.YtibgbapeblicjaaWt
import Derived.Test.YtibgbapeblicjaaWk
set_option linter.unusedVariables false
namespace Go.Proofs.Ytibgbapeblicjaa
open Go
set_option maxRecDepth 100000
/- broadside/broadsidebook.Within -/
def S6 (a0 a1 a2 : Value) (I : Imm) (H : PH) (R : KV) : Prop :=
  wPure PP (semBin .sub 3 false false a2 a1) fun t10 =>
  wPure PP (semBin .add 3 false true t10 (vi 1)) fun t11 =>
  wPure PP (semBin .rem 3 false false a0 t11) fun t12 =>
  wPure PP (semBin .lss 3 false true t12 (vi 0)) fun t14 =>
  wJ (fun J =>
    wIf t14 (
      wPure PP (semBin .add 3 false false t12 a2) fun t17 =>
      wPure PP (semBin .sub 3 false false t17 a1) fun t19 =>
      wPure PP (semBin .add 3 false true t19 (vi 1)) fun t20 =>
      J [t12, a2, t17, a1, t19, t20, t20] I H) (
      J [undef, undef, undef, undef, undef, undef, t12] I H))
  (fun vs I H =>
  wPure PP (semBin .add 3 false false a1 (nth vs 6)) fun t23 =>
  R t23 I H)
theorem S6_eq (a0 a1 a2 : Value) (I : Imm) (H : PH) (R : KV) : WF PP [] Try.f6 [a0, a1, a2] I H R = S6 a0 a1 a2 I H R := by kernel_rfl
theorem S6_ok {a0 a1 a2 : Value} {I : Imm} {H : PH} {R : KV} (h : S6 a0 a1 a2 I H R) : CallA PP 6 [a0, a1, a2] I H R :=
  WF.ok (P := PP) (f := 6) (fn := Try.f6) (ord := []) (args := [a0, a1, a2]) follows Try.func6 (by kernel_rfl) (by kernel_rfl) (by kernel_rfl) ((S6_eq a0 a1 a2 I H R).mpr h)

/- slices.Index[[]int,int] -/
def S67 (a0 a1 : Value) (I : Imm) (H : PH) (R : KV) : Prop :=
  wRead PP (Builtin.len_ #[22] 3 #[a0]) I H fun t7 =>
  wJ (fun J =>
    wLoop (fun kc vs_1 I H =>
      wPure PP (semBin .lss 3 false false (nth vs_1 12) t7) fun t9 =>
      wIf t9 (
        wJ (fun J_1 =>
          wPure PP (Instr.indexAt 22 a0 (nth vs_1 12)) fun t14 =>
          wRead PP (Instr.loadAt 3 t14) I H fun t15 =>
          wPure PP (semBin .eql 3 false false a1 t15) fun t16 =>
          wIf t16 (
            R (nth vs_1 12) I H) (
          J_1 [(nth vs_1 12), (nth vs_1 12), a1, a0, (nth vs_1 12), t14, t15, t16, (nth vs_1 9), (nth vs_1 10)] I H))
        (fun vs_2 I H =>
        wPure PP (semBin .add 3 false true (nth vs_1 12) (vi 1)) fun t18 =>
        kc [t9, (nth vs_2 0), (nth vs_2 1), (nth vs_2 2), (nth vs_2 3), (nth vs_2 4), (nth vs_2 5), (nth vs_2 6), (nth vs_2 7), (nth vs_2 8), (nth vs_2 9), t18, t18] I H)) (
        J [t9, (nth vs_1 1), (nth vs_1 2), (nth vs_1 3), (nth vs_1 4), (nth vs_1 5), (nth vs_1 6), (nth vs_1 7), (nth vs_1 8), (nth vs_1 9), (nth vs_1 10), (nth vs_1 11), (nth vs_1 12)] I H))
      [undef, undef, undef, undef, undef, undef, undef, undef, undef, undef, (vi 0), undef, (vi 0)] I H)
  (fun vs I H =>
  R (vi (-1)) I H)
theorem S67_eq (a0 a1 : Value) (I : Imm) (H : PH) (R : KV) : WF PP [] Try.f67 [a0, a1] I H R = S67 a0 a1 I H R := by kernel_rfl
theorem S67_ok {a0 a1 : Value} {I : Imm} {H : PH} {R : KV} (h : S67 a0 a1 I H R) : CallA PP 67 [a0, a1] I H R :=
  WF.ok (P := PP) (f := 67) (fn := Try.f67) (ord := []) (args := [a0, a1]) follows Try.func67 (by kernel_rfl) (by kernel_rfl) (by kernel_rfl) ((S67_eq a0 a1 I H R).mpr h)

/- slices.Contains[[]int,int] -/
def S24 (a0 a1 : Value) (I : Imm) (H : PH) (R : KV) : Prop :=
  wCall PP (vf 67) [a0, a1] I H fun t7 I H =>
  wPure PP (semBin .geq 3 false true t7 (vi 0)) fun t8 =>
  R t8 I H
theorem S24_eq (a0 a1 : Value) (I : Imm) (H : PH) (R : KV) : WF PP [] Try.f24 [a0, a1] I H R = S24 a0 a1 I H R := by kernel_rfl
theorem S24_ok {a0 a1 : Value} {I : Imm} {H : PH} {R : KV} (h : S24 a0 a1 I H R) : CallA PP 24 [a0, a1] I H R :=
  WF.ok (P := PP) (f := 24) (fn := Try.f24) (ord := []) (args := [a0, a1]) follows Try.func24 (by kernel_rfl) (by kernel_rfl) (by kernel_rfl) ((S24_eq a0 a1 I H R).mpr h)

/- broadside/broadsidebook.Same[int] -/
def S9 (a0 a1 : Value) (I : Imm) (H : PH) (R : KV) : Prop :=
  wRead PP (Builtin.len_ #[22] 3 #[a0]) I H fun t7 =>
  wRead PP (Builtin.len_ #[22] 3 #[a1]) I H fun t9 =>
  wPure PP (semBin .neq 3 false false t7 t9) fun t10 =>
  wIf t10 (
    R (vb false) I H) (
  wJ (fun J =>
    wLoop (fun kc vs_1 I H =>
      wRead PP (Builtin.len_ #[22] 3 #[a0]) I H fun t13 =>
      wPure PP (semBin .lss 3 false false (nth vs_1 16) t13) fun t14 =>
      wIf t14 (
        wJ (fun J_1 =>
          wKeep H fun Hs Ha =>
          wPure PP (Instr.indexAt 22 a0 (nth vs_1 16)) fun t19 =>
          wPure PP (Instr.indexAt 22 a1 (nth vs_1 16)) fun t23 =>
          wRead PP (Instr.loadAt 3 t19) I Hs fun t20 =>
          wRead PP (Instr.loadAt 3 t23) I Hs fun t24 =>
          wPure PP (semBin .neq 3 false false t20 t24) fun t25 =>
          wIn I (join Hs Ha) fun I H =>
          wIf t25 (
            R (vb false) I H) (
          J_1 [a0, (nth vs_1 16), t19, t20, a1, (nth vs_1 16), t23, t24, t25, (nth vs_1 13)] I H))
        (fun vs_2 I H =>
        wPure PP (semBin .add 3 false true (nth vs_1 16) (vi 1)) fun t16 =>
        kc [(nth vs_1 16), a0, t13, t14, (nth vs_2 0), (nth vs_2 1), (nth vs_2 2), (nth vs_2 3), (nth vs_2 4), (nth vs_2 5), (nth vs_2 6), (nth vs_2 7), (nth vs_2 8), (nth vs_2 9), (nth vs_1 16), t16, t16] I H)) (
        J [(nth vs_1 16), a0, t13, t14, (nth vs_1 4), (nth vs_1 5), (nth vs_1 6), (nth vs_1 7), (nth vs_1 8), (nth vs_1 9), (nth vs_1 10), (nth vs_1 11), (nth vs_1 12), (nth vs_1 13), (nth vs_1 14), (nth vs_1 15), (nth vs_1 16)] I H))
      [undef, undef, undef, undef, undef, undef, undef, undef, undef, undef, undef, undef, undef, (vb false), undef, undef, (vi 0)] I H)
  (fun vs I H =>
  R (vb true) I H))
theorem S9_eq (a0 a1 : Value) (I : Imm) (H : PH) (R : KV) : WF PP [[], [], [], [], [], [], [0, 1, 2, 4, 5, 6, 3, 7, 8]] Try.f9 [a0, a1] I H R = S9 a0 a1 I H R := by kernel_rfl
theorem S9_ok {a0 a1 : Value} {I : Imm} {H : PH} {R : KV} (h : S9 a0 a1 I H R) : CallA PP 9 [a0, a1] I H R :=
  WF.ok (P := PP) (f := 9) (fn := Try.f9) (ord := [[], [], [], [], [], [], [0, 1, 2, 4, 5, 6, 3, 7, 8]]) (args := [a0, a1]) follows Try.func9 (by kernel_rfl) (by kernel_rfl) (by kernel_rfl) ((S9_eq a0 a1 I H R).mpr h)

/- broadside/graph.broker -/
def S93 (a0 a1 : Value) (I : Imm) (H : PH) (R : KV) : Prop :=
  wMake PP (Instr.box 27 a0) I H fun t2 H =>
  wPure PP (semBin .geq 3 false true a1 (vi 0)) fun t6 =>
  wGuard t6 true (fun k => k a1 I H) (fun t8 I H =>
  wGuard t6 true (fun k => wPure PP (Instr.fieldAt 27 t2 0) fun v => k v I H) (fun t9 I H =>
  wGuard t6 true (fun k => wRead PP (Instr.loadAt 3 t9) I H fun v => k v I H) (fun t10 I H =>
  wGuard t6 true (fun k => wPure PP (semBin .lss 3 false false t8 t10) fun v => k v I H) (fun t11 I H =>
  wPure PP (semPick t6 t11 (vb false)) fun t12 =>
  R t12 I H) I H) I H) I H) I H
theorem S93_eq (a0 a1 : Value) (I : Imm) (H : PH) (R : KV) : WF PP [] Try.f93 [a0, a1] I H R = S93 a0 a1 I H R := by kernel_rfl
theorem S93_ok {a0 a1 : Value} {I : Imm} {H : PH} {R : KV} (h : S93 a0 a1 I H R) : CallA PP 93 [a0, a1] I H R :=
  WF.ok (P := PP) (f := 93) (fn := Try.f93) (ord := []) (args := [a0, a1]) follows Try.func93 (by kernel_rfl) (by kernel_rfl) (by kernel_rfl) ((S93_eq a0 a1 I H R).mpr h)

/- broadside/graph.may -/
def S68 (a0 a1 : Value) (I : Imm) (H : PH) (R : KV) : Prop :=
  wMake PP (Instr.box 27 a0) I H fun t2 H =>
  wMake PP (Instr.box 61 a1) I H fun t3 H =>
  wRead PP (Instr.loadAt 27 t2) I H fun t5 =>
  wPure PP (Instr.indexAt 61 t3 (vi 0)) fun t6 =>
  wRead PP (Instr.loadAt 3 t6) I H fun t7 =>
  wCall PP (vf 93) [t5, t7] I H fun t8 I H =>
  wGuard t8 true (fun k => wRead PP (Instr.loadAt 27 t2) I H fun v => k v I H) (fun t10 I H =>
  wGuard t8 true (fun k => wPure PP (Instr.indexAt 61 t3 (vi 1)) fun v => k v I H) (fun t11 I H =>
  wGuard t8 true (fun k => wRead PP (Instr.loadAt 3 t11) I H fun v => k v I H) (fun t12 I H =>
  wGuard t8 true (fun k => wCall PP (vf 93) [t10, t12] I H k) (fun t13 I H =>
  wPure PP (semPick t8 t13 (vb false)) fun t14 =>
  wGuard t14 true (fun k => wPure PP (Instr.indexAt 61 t3 (vi 0)) fun v => k v I H) (fun t16 I H =>
  wGuard t14 true (fun k => wRead PP (Instr.loadAt 3 t16) I H fun v => k v I H) (fun t17 I H =>
  wGuard t14 true (fun k => wPure PP (Instr.indexAt 61 t3 (vi 1)) fun v => k v I H) (fun t18 I H =>
  wGuard t14 true (fun k => wRead PP (Instr.loadAt 3 t18) I H fun v => k v I H) (fun t19 I H =>
  wGuard t14 true (fun k => wPure PP (semBin .neq 3 false false t17 t19) fun v => k v I H) (fun t20 I H =>
  wPure PP (semPick t14 t20 (vb false)) fun t21 =>
  R t21 I H) I H) I H) I H) I H) I H) I H) I H) I H) I H
theorem S68_eq (a0 a1 : Value) (I : Imm) (H : PH) (R : KV) : WF PP [] Try.f68 [a0, a1] I H R = S68 a0 a1 I H R := by kernel_rfl
theorem S68_ok {a0 a1 : Value} {I : Imm} {H : PH} {R : KV} (h : S68 a0 a1 I H R) : CallA PP 68 [a0, a1] I H R :=
  WF.ok (P := PP) (f := 68) (fn := Try.f68) (ord := []) (args := [a0, a1]) follows Try.func68 (by kernel_rfl) (by kernel_rfl) (by kernel_rfl) ((S68_eq a0 a1 I H R).mpr h)


def within (n lo hi : Int) : Int := lo + (if n.tmod (hi - lo + 1) < 0 then n.tmod (hi - lo + 1) + hi - lo + 1 else n.tmod (hi - lo + 1))
theorem tmod_lt' (n m : Int) (hm : 0 < m) : n.tmod m < m := Int.tmod_lt_of_pos n hm
theorem tmod_gt' (n m : Int) (hm : 0 < m) : -m < n.tmod m := by
  have h1 := Int.tmod_lt_of_pos (-n) hm
  rw [Int.neg_tmod] at h1; omega
theorem within_in (n : Int) {lo hi : Int} (h : lo ≤ hi) : lo ≤ within n lo hi ∧ within n lo hi ≤ hi := by
  have h1 := tmod_lt' n (hi - lo + 1) (by omega)
  have h2 := tmod_gt' n (hi - lo + 1) (by omega)
  have h3 : ¬ n.tmod (hi - lo + 1) < 0 → 0 ≤ n.tmod (hi - lo + 1) := by omega
  unfold within
  split <;> constructor <;> omega
theorem Within_spec (n lo hi : Int) (h : lo ≤ hi) (h0 : -1099511627776 ≤ lo) (h1 : hi ≤ 1099511627776) (I : Imm) (H : PH) :
    CallA PP 6 [vi n, vi lo, vi hi] I H (fun v I' H' => H' = H ∧ I' = I ∧ v = vi (within n lo hi)) := by
  have h2 := tmod_lt' n (hi - lo + 1) (by omega)
  have h3 := tmod_gt' n (hi - lo + 1) (by omega)
  refine S6_ok ?_
  refine p_sub (by omega) (by omega) ?_
  refine p_add (by omega) (by omega) ?_
  refine p_gen (run_rem _ _ (by omega)) ?_
  refine p_gen (run_lss _ _) ?_
  refine if_dec (fun hn => ?_) fun hn => ?_
  · refine p_add (by omega) (by omega) ?_
    refine p_sub (by omega) (by omega) ?_
    refine p_add (by omega) (by omega) ?_
    refine p_add (by omega) (by omega) ?_
    exact ⟨rfl, rfl, by rw [within, if_pos hn]⟩
  · refine p_add (by omega) (by omega) ?_
    exact ⟨rfl, rfl, by rw [within, if_neg hn]⟩

theorem Index_spec {v : Value} {xs : List Int} (x : Int) (I : Imm) (H : PH) (hl : xs.length ≤ 1099511627776) (hs : Sl elInt (Bk I H) v xs) :
    CallA PP 67 [v, vi x] I H (fun v I' H' => H' = H ∧ I' = I ∧ ∃ r : Int, v = vi r ∧ (0 ≤ r ↔ x ∈ xs)) := by
  refine S67_ok ?_
  refine r_slen sl_22 hs ?_
  simp only [wJ]
  refine loop_inv (fun n vs I' H' => I' = I ∧ H' = H ∧ ∃ i : Nat, nth vs 12 = vi i ∧ i ≤ xs.length ∧ n = xs.length - i ∧ ∀ j, j < i → xs[j]? ≠ some x) xs.length
    ⟨rfl, rfl, 0, rfl, by omega, by omega, fun j hj => by omega⟩ ?_
  rintro n vs _ _ k hk ⟨rfl, rfl, i, hv, hi, hn, hz⟩
  rw [hv]
  refine p_gen (run_lss _ _) ?_
  refine if_dec (fun h => ?_) (fun h => ?_)
  · have hx := nat_get (xs := xs) (i := i) (by omega)
    refine p_iidx sl_22 ty_3 hs (by omega) hx fun b o hat => ?_
    refine r_at1 ty_3 hat ?_
    refine p_gen (run_eql _ _) ?_
    refine if_dec (fun h0 => ?_) (fun h0 => ?_)
    · exact ⟨rfl, rfl, i, rfl, ⟨fun _ => List.mem_of_getElem? (by rw [h0]; exact hx), fun _ => by omega⟩⟩
    · refine p_add (by omega) (by omega) ?_
      refine hk (n - 1) _ _ _ (by omega) ⟨rfl, rfl, i + 1, by simp [nth], by omega, by omega, fun j hj => ?_⟩
      by_cases e : j = i
      · subst e; intro hc; rw [Int.toNat_natCast, hc] at hx; exact h0 (by injection hx)
      · exact hz j (by omega)
  · refine ⟨rfl, rfl, -1, rfl, ⟨fun h => by omega, fun hm => ?_⟩⟩
    obtain ⟨j, hj⟩ := List.getElem?_of_mem hm
    have := (List.getElem?_eq_some_iff.1 hj).1
    exact absurd hj (hz j (by omega))
theorem Contains_spec {v : Value} {xs : List Int} (x : Int) (I : Imm) (H : PH) (hl : xs.length ≤ 1099511627776) (hs : Sl elInt (Bk I H) v xs) :
    CallA PP 24 [v, vi x] I H (fun v I' H' => H' = H ∧ I' = I ∧ v = .bool (decide (x ∈ xs))) := by
  refine S24_ok ?_
  refine c_call ((Index_spec x I H hl hs).mono ?_); rintro _ _ _ - ⟨rfl, rfl, r, rfl, hr⟩
  refine p_gen (run_geq _ _) ?_
  exact ⟨rfl, rfl, by simp [hr]⟩

theorem Same_spec {v u : Value} {xs ys : List Int} (I : Imm) (H : PH) (hl : xs.length ≤ 1099511627776) (hs : Sl elInt (Bk I H) v xs) (ht : Sl elInt (Bk I H) u ys) :
    CallA PP 9 [v, u] I H (fun v I' H' => H' = H ∧ I' = I ∧ v = .bool (decide (xs = ys))) := by
  refine S9_ok ?_
  refine r_slen sl_22 hs (r_slen sl_22 ht ?_)
  refine p_gen (run_neq _ _) ?_
  refine if_ndec (fun h => ⟨rfl, rfl, ?_⟩) (fun h => ?_)
  · have : xs ≠ ys := fun e => h (by rw [e])
    simp [this]
  simp only [wJ]
  have hlen : xs.length = ys.length := by omega
  refine loop_inv (fun n vs I' H' => I' = I ∧ H' = H ∧ ∃ i : Nat, nth vs 16 = vi i ∧ i ≤ xs.length ∧ n = xs.length - i ∧ ∀ j, j < i → xs[j]? = ys[j]?) xs.length
    ⟨rfl, rfl, 0, rfl, by omega, by omega, fun j hj => by omega⟩ ?_
  rintro n vs _ _ k hk ⟨rfl, rfl, i, hv, hi, hn, hz⟩
  rw [hv]
  refine r_slen sl_22 hs ?_
  refine p_gen (run_lss _ _) ?_
  refine if_dec (fun h => ?_) (fun h => ?_)
  · have hx := nat_get (xs := xs) (i := i) (by omega)
    have hy := nat_get (xs := ys) (i := i) (by omega)
    refine keep_all ?_
    refine p_iidx sl_22 ty_3 hs (by omega) hx fun b o hat => ?_
    refine p_iidx sl_22 ty_3 ht (by omega) hy fun b' o' hat' => ?_
    refine r_at1 ty_3 hat (r_at1 ty_3 hat' ?_)
    refine p_gen (run_neq _ _) ?_
    refine in_none ?_
    refine if_ndec (fun h0 => ⟨rfl, rfl, ?_⟩) (fun h0 => ?_)
    · have : xs ≠ ys := fun e => h0 (by rw [e])
      simp [this]
    · refine p_add (by omega) (by omega) ?_
      refine hk (n - 1) _ _ _ (by omega) ⟨rfl, rfl, i + 1, by simp [nth], by omega, by omega, fun j hj => ?_⟩
      by_cases e : j = i
      · subst e; rw [Int.toNat_natCast] at hx hy; rw [hx, hy, h0]
      · exact hz j (by omega)
  · refine ⟨rfl, rfl, ?_⟩
    have : xs = ys := by
      apply List.ext_getElem?
      intro j
      by_cases hj : j < i
      · exact hz j hj
      · rw [List.getElem?_eq_none (by omega), List.getElem?_eq_none (by omega)]
    simp [this]

/-! ### Links -/
def enP : En (Int × Int) := ⟨2, fun x => [vi x.1, vi x.2], fun _ => rfl, fun _ => rfl⟩
abbrev elP : El (Int × Int) := enP.el
abbrev gv (nb : Int) (lv : Value) : Value := .agg #[vi nb, lv]
abbrev lkv (l : Int × Int) : Value := .agg #[vi l.1, vi l.2]
def inB (nb b : Int) : Bool := decide (0 ≤ b) && decide (b < nb)
def mayL (nb : Int) (l : Int × Int) : Bool := inB nb l.1 && inB nb l.2 && !decide (l.1 = l.2)
theorem broker_spec (nb : Int) (lv : Value) (h1 : lv.oneCell' = true) (b : Int) (I : Imm) (H : PH) : CallA PP 93 [gv nb lv, vi b] I H (fun v I' H' => H' = H ∧ I' = I ∧ v = .bool (inB nb b)) := by
  refine CallA.post (S93_ok ?_)
  change S93 _ _ I (upds [] H) _
  have hnd := ND.nil H
  refine mk_box hnd fun b2 hb2 hnd => ?_
  refine p_gen (run_geq _ _) ?_
  by_cases h : 0 ≤ b
  · refine g_do (by simp [h]) ?_
    refine g_do (by simp [h]) (p_gen (fld_27_0 _ _) ?_)
    refine g_do (by simp [h]) (lo1 ty_3 hnd 0 rfl rfl ?_)
    refine g_do (by simp [h]) (p_gen (run_lss _ _) ?_)
    refine p_pick_t (by simp [h]) ?_
    exact ⟨_, _, ends hnd, .refl _, rfl, rfl, by simp [inB, h]⟩
  · iterate 4 refine g_skip (by simp [h]) ?_
    refine p_pick_f (by simp [h]) ?_
    exact ⟨_, _, ends hnd, .refl _, rfl, rfl, by simp [inB, h]⟩
end Go.Proofs.Ytibgbapeblicjaa
