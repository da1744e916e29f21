/- Dropping repetitions in a row of ints. -/
import Derived.Test.YtibgbapeblicjaaXd
set_option linter.unusedVariables false
namespace Go.Proofs.Ytibgbapeblicjaa
open Go
set_option maxRecDepth 100000
/- slices.Compact[[]int,int] -/
def S30 (a0 : Value) (I : Imm) (H : PH) (R : KV) : Prop :=
  wRead PP (Builtin.len_ #[22] 3 #[a0]) I H fun t7 =>
  wPure PP (semBin .lss 3 false true t7 (vi 2)) fun t8 =>
  wIf t8 (
    R a0 I H) (
  wJ (fun J =>
    wLoop (fun kc vs_1 I H =>
      wRead PP (Builtin.len_ #[22] 3 #[a0]) I H fun t12 =>
      wPure PP (semBin .lss 3 false false (nth vs_1 42) t12) fun t13 =>
      wIf t13 (
        wJ (fun J_1 =>
          wKeep H fun Hs Ha =>
          wPure PP (Instr.indexAt 22 a0 (nth vs_1 42)) fun t18 =>
          wPure PP (semBin .sub 3 false true (nth vs_1 42) (vi 1)) fun t22 =>
          wPure PP (Instr.indexAt 22 a0 t22) fun t23 =>
          wRead PP (Instr.loadAt 3 t18) I Hs fun t19 =>
          wRead PP (Instr.loadAt 3 t23) I Hs fun t24 =>
          wPure PP (semBin .eql 3 false false t19 t24) fun t25 =>
          wIn I (join Hs Ha) fun I H =>
          wIf t25 (
            wPure PP (Instr.sliceAt 22 a0 (some (nth vs_1 42)) none none) fun t28 =>
            wJ (fun J_2 =>
              wLoop (fun kc_1 vs_4 I H =>
                wRead PP (Builtin.len_ #[22] 3 #[t28]) I H fun t31 =>
                wPure PP (semBin .lss 3 false false (nth vs_4 26) t31) fun t32 =>
                wIf t32 (
                  wJ (fun J_3 =>
                    wKeep H fun Hs Ha =>
                    wPure PP (Instr.indexAt 22 t28 (nth vs_4 26)) fun t37 =>
                    wPure PP (semBin .sub 3 false true (nth vs_4 26) (vi 1)) fun t41 =>
                    wPure PP (Instr.indexAt 22 t28 t41) fun t42 =>
                    wRead PP (Instr.loadAt 3 t37) I Hs fun t38 =>
                    wRead PP (Instr.loadAt 3 t42) I Hs fun t43 =>
                    wPure PP (semBin .neq 3 false false t38 t43) fun t44 =>
                    wIn I (join Hs Ha) fun I H =>
                    wJ (fun J_4 =>
                      wIf t44 (
                        wPure PP (Instr.indexAt 22 t28 (nth vs_4 26)) fun t49 =>
                        wRead PP (Instr.loadAt 3 t49) I H fun t50 =>
                        wPure PP (Instr.indexAt 22 a0 (nth vs_4 23)) fun t51 =>
                        wAct PP (Instr.storeAt 3 t51 t50) I H fun _ I H =>
                        wPure PP (semBin .add 3 false true (nth vs_4 23) (vi 1)) fun t53 =>
                        J_4 [a0, (nth vs_4 23), t28, (nth vs_4 26), t49, t50, t51, (nth vs_4 23), t53, t53] I H) (
                        J_4 [(nth vs_4 14), (nth vs_4 15), (nth vs_4 16), (nth vs_4 17), (nth vs_4 18), (nth vs_4 19), (nth vs_4 20), (nth vs_4 21), (nth vs_4 22), (nth vs_4 23)] I H))
                    (fun vs_6 I H =>
                    J_3 [t28, (nth vs_4 26), t37, t38, t28, (nth vs_4 26), t41, t42, t43, t44, (nth vs_6 0), (nth vs_6 1), (nth vs_6 2), (nth vs_6 3), (nth vs_6 4), (nth vs_6 5), (nth vs_6 6), (nth vs_6 7), (nth vs_6 8), (nth vs_6 9)] I H))
                  (fun vs_5 I H =>
                  wPure PP (semBin .add 3 false true (nth vs_4 26) (vi 1)) fun t34 =>
                  kc_1 [(nth vs_4 26), t28, t31, t32, (nth vs_5 0), (nth vs_5 1), (nth vs_5 2), (nth vs_5 3), (nth vs_5 4), (nth vs_5 5), (nth vs_5 6), (nth vs_5 7), (nth vs_5 8), (nth vs_5 9), (nth vs_5 10), (nth vs_5 11), (nth vs_5 12), (nth vs_5 13), (nth vs_5 14), (nth vs_5 15), (nth vs_5 16), (nth vs_5 17), (nth vs_5 18), (nth vs_5 19), (nth vs_4 26), t34, t34] I H)) (
                  J_2 [(nth vs_4 26), t28, t31, t32, (nth vs_4 4), (nth vs_4 5), (nth vs_4 6), (nth vs_4 7), (nth vs_4 8), (nth vs_4 9), (nth vs_4 10), (nth vs_4 11), (nth vs_4 12), (nth vs_4 13), (nth vs_4 14), (nth vs_4 15), (nth vs_4 16), (nth vs_4 17), (nth vs_4 18), (nth vs_4 19), (nth vs_4 20), (nth vs_4 21), (nth vs_4 22), (nth vs_4 23), (nth vs_4 24), (nth vs_4 25), (nth vs_4 26)] I H))
                [(nth vs_1 19), (nth vs_1 20), (nth vs_1 21), (nth vs_1 22), (nth vs_1 23), (nth vs_1 24), (nth vs_1 25), (nth vs_1 26), (nth vs_1 27), (nth vs_1 28), (nth vs_1 29), (nth vs_1 30), (nth vs_1 31), (nth vs_1 32), (nth vs_1 33), (nth vs_1 34), (nth vs_1 35), (nth vs_1 36), (nth vs_1 37), (nth vs_1 38), (nth vs_1 39), (nth vs_1 40), (nth vs_1 41), (nth vs_1 42), (nth vs_1 43), (nth vs_1 44), (vi 1)] I H)
            (fun vs_3 I H =>
            wPure PP (Instr.sliceAt 22 a0 (some (nth vs_3 23)) none none) fun t56 =>
            wAct PP (Builtin.clear_ #[22] 0 #[t56]) I H fun _ I H =>
            wPure PP (Instr.sliceAt 22 a0 none (some (nth vs_3 23)) none) fun t59 =>
            R t59 I H)) (
          J_1 [a0, (nth vs_1 42), t18, t19, a0, (nth vs_1 42), t22, t23, t24, t25, (nth vs_1 14), (nth vs_1 15), (nth vs_1 16), (nth vs_1 17), (nth vs_1 18), (nth vs_1 19), (nth vs_1 20), (nth vs_1 21), (nth vs_1 22), (nth vs_1 23), (nth vs_1 24), (nth vs_1 25), (nth vs_1 26), (nth vs_1 27), (nth vs_1 28), (nth vs_1 29), (nth vs_1 30), (nth vs_1 31), (nth vs_1 32), (nth vs_1 33), (nth vs_1 34), (nth vs_1 35), (nth vs_1 36), (nth vs_1 37), (nth vs_1 38), (nth vs_1 39), (nth vs_1 40), (nth vs_1 41), (nth vs_1 42), (nth vs_1 43), (nth vs_1 44), (nth vs_1 45), (nth vs_1 46), (nth vs_1 47), (nth vs_1 48), (nth vs_1 49), (nth vs_1 50), (nth vs_1 51)] I H))
        (fun vs_2 I H =>
        wPure PP (semBin .add 3 false true (nth vs_2 38) (vi 1)) fun t15 =>
        kc [(nth vs_1 42), a0, t12, t13, (nth vs_2 0), (nth vs_2 1), (nth vs_2 2), (nth vs_2 3), (nth vs_2 4), (nth vs_2 5), (nth vs_2 6), (nth vs_2 7), (nth vs_2 8), (nth vs_2 9), (nth vs_2 10), (nth vs_2 11), (nth vs_2 12), (nth vs_2 13), (nth vs_2 14), (nth vs_2 15), (nth vs_2 16), (nth vs_2 17), (nth vs_2 18), (nth vs_2 19), (nth vs_2 20), (nth vs_2 21), (nth vs_2 22), (nth vs_2 23), (nth vs_2 24), (nth vs_2 25), (nth vs_2 26), (nth vs_2 27), (nth vs_2 28), (nth vs_2 29), (nth vs_2 30), (nth vs_2 31), (nth vs_2 32), (nth vs_2 33), (nth vs_2 34), (nth vs_2 35), (nth vs_2 36), (nth vs_2 37), t15, (nth vs_2 39), (nth vs_2 40), (nth vs_2 41), (nth vs_2 42), (nth vs_2 43), (nth vs_2 44), (nth vs_2 45), (nth vs_2 46), (nth vs_2 47), (nth vs_2 38), t15] I H)) (
        J [(nth vs_1 42), a0, t12, t13, (nth vs_1 4), (nth vs_1 5), (nth vs_1 6), (nth vs_1 7), (nth vs_1 8), (nth vs_1 9), (nth vs_1 10), (nth vs_1 11), (nth vs_1 12), (nth vs_1 13), (nth vs_1 14), (nth vs_1 15), (nth vs_1 16), (nth vs_1 17), (nth vs_1 18), (nth vs_1 19), (nth vs_1 20), (nth vs_1 21), (nth vs_1 22), (nth vs_1 23), (nth vs_1 24), (nth vs_1 25), (nth vs_1 26), (nth vs_1 27), (nth vs_1 28), (nth vs_1 29), (nth vs_1 30), (nth vs_1 31), (nth vs_1 32), (nth vs_1 33), (nth vs_1 34), (nth vs_1 35), (nth vs_1 36), (nth vs_1 37), (nth vs_1 38), (nth vs_1 39), (nth vs_1 40), (nth vs_1 41), (nth vs_1 42), (nth vs_1 43), (nth vs_1 44), (nth vs_1 45), (nth vs_1 46), (nth vs_1 47), (nth vs_1 48), (nth vs_1 49), (nth vs_1 50), (nth vs_1 51), (nth vs_1 52), (nth vs_1 53)] I H))
      [undef, undef, undef, undef, undef, undef, undef, undef, undef, undef, undef, undef, undef, undef, undef, undef, undef, undef, undef, undef, undef, undef, undef, undef, undef, undef, undef, undef, undef, undef, undef, undef, undef, undef, undef, undef, undef, undef, undef, undef, undef, undef, (vi 1), undef, undef, undef, undef, undef, undef, undef, undef, (Value.slice none 0 0), undef, undef] I H)
  (fun vs I H =>
  R a0 I H))
theorem S30_eq (a0 : Value) (I : Imm) (H : PH) (R : KV) : WF PP [[], [], [], [], [], [], [0, 1, 2, 4, 5, 6, 7, 3, 8, 9], [], [], [], [], [0, 1, 2, 4, 5, 6, 7, 3, 8, 9]] Try.f30 [a0] I H R = S30 a0 I H R := by kernel_rfl
theorem S30_ok {a0 : Value} {I : Imm} {H : PH} {R : KV} (h : S30 a0 I H R) : CallA PP 30 [a0] I H R :=
  WF.ok (P := PP) (f := 30) (fn := Try.f30) (ord := [[], [], [], [], [], [], [0, 1, 2, 4, 5, 6, 7, 3, 8, 9], [], [], [], [], [0, 1, 2, 4, 5, 6, 7, 3, 8, 9]]) (args := [a0]) follows Try.func30 (by kernel_rfl) (by kernel_rfl) (by kernel_rfl) ((S30_eq a0 I H R).mpr h)


def comp (l : List Int) : Nat → List Int
  | 0 => []
  | n + 1 => if n ≠ 0 ∧ l.getD n 0 = l.getD (n - 1) 0 then comp l n else comp l n ++ [l.getD n 0]
def compactL (l : List Int) : List Int := comp l l.length
theorem comp_len (l : List Int) : ∀ n, (comp l n).length ≤ n
  | 0 => by simp [comp]
  | n + 1 => by have := comp_len l n; simp only [comp]; split <;> simp <;> omega
theorem comp_new {l : List Int} {n : Nat} (h0 : n ≠ 0) (h : ¬ l.getD n 0 = l.getD (n - 1) 0) : comp l (n + 1) = comp l n ++ [l.getD n 0] := by
  rw [comp, if_neg (fun x => h x.2)]
theorem comp_old {l : List Int} {n : Nat} (h0 : n ≠ 0) (h : l.getD n 0 = l.getD (n - 1) 0) : comp l (n + 1) = comp l n := by
  rw [comp, if_pos ⟨h0, h⟩]
theorem take_snoc (l : List Int) (i : Nat) (h : i < l.length) : l.take (i + 1) = l.take i ++ [l.getD i 0] := by
  rw [List.take_add_one, List.getElem?_eq_getElem h, List.getD_eq_getElem?_getD, List.getElem?_eq_getElem h]; rfl
theorem set_take (l : List Int) (k : Nat) (y : Int) (h : k < l.length) : (l.set k y).take (k + 1) = l.take k ++ [y] := by
  rw [List.take_add_one, List.getElem?_set_self h, List.take_set_of_le (Nat.le_refl k)]; rfl
theorem setN_mid (a b c zs : List Value) (h : zs.length = b.length) : setN (a ++ b ++ c) a.length zs = a ++ (zs ++ c) := by
  simp only [setN, List.append_assoc]
  rw [List.take_left, h, List.drop_append, List.drop_eq_nil_of_le (by omega), List.nil_append, Nat.add_sub_cancel_left, List.drop_left]
theorem Compact_spec {H0 H : PH} {v : Value} {l : List Int} (hr : Ro enInt 3 H0 H v l) (hl : l.length ≤ 1000000) (I : Imm) :
    CallA PP 30 [v] I H (fun v' I' H' => I' = I ∧ Ro enInt 3 H0 H' v' (compactL l)) := by
  refine S30_ok ?_
  have hsl := hr.sl (B := Bk I H) (fun _ _ h => .inl h)
  refine r_slen sl_22 hsl ?_
  refine p_gen (run_lss _ _) ?_
  refine if_dec (fun h1 => ⟨rfl, ?_⟩) (fun h1 => ?_)
  · have : compactL l = l := by
      match l, h1 with
      | [], _ => rfl
      | [x], _ => simp [compactL, comp]
      | _ :: _ :: _, h => simp at h; omega
    rw [this]; exact hr
  rcases hr.open with ⟨rfl, rfl, rfl⟩ | ⟨g, cap, rest, rfl, rfl, h3, h4, h5, h6⟩
  · simp at h1
  refine loop_inv (fun n vs I' H' => I' = I ∧ H' = upd H0 g (rowA enInt 3 l rest) ∧ ∃ i : Nat, nth vs 42 = vi i ∧ 1 ≤ i ∧ i ≤ l.length ∧ n = l.length - i ∧ comp l i = l.take i) (l.length - 1)
    ⟨rfl, rfl, 1, rfl, by omega, by omega, rfl, by cases l with | nil => simp at h1 | cons x l => simp [comp]⟩ ?_
  rintro n vs I _ k hk ⟨rfl, rfl, i, hi, hi1, hi2, hn, hc⟩
  rw [hi]
  refine r_len sl_22 ?_
  refine p_gen (run_lss _ _) ?_
  refine if_dec (fun h2 => ?_) (fun h2 => ?_)
  case refine_2 =>
    refine ⟨rfl, ?_⟩
    have : i = l.length := by omega
    rw [compactL, ← this, hc, this, List.take_length]; exact hr
  have e1 : ((i : Nat) : Int) - 1 = ((i - 1 : Nat) : Int) := by omega
  have hx := nat_get (xs := l) (i := i) (by omega)
  have hy := nat_get (xs := l) (i := i - 1) (by omega)
  refine jn (keep_all ?_)
  refine p_iidx sl_22 ty_3 hsl (by omega) hx fun b o hat => ?_
  refine p_sub (by omega) (by omega) ?_
  rw [e1]
  refine p_iidx sl_22 ty_3 hsl (by omega) hy fun b' o' hat' => ?_
  refine r_at1 ty_3 hat (r_at1 ty_3 hat' ?_)
  refine p_gen (run_eql _ _) ?_
  refine in_none ?_
  refine if_dec (fun h7 => ?_) (fun h7 => ?_)
  case refine_2 =>
    refine p_add (by omega) (by omega) ?_
    refine hk (n - 1) _ _ _ (by omega) ⟨rfl, rfl, i + 1, rfl, by omega, by omega, by omega, ?_⟩
    rw [comp_new (by omega) h7, take_snoc l i (by omega), hc]
  refine p_slice_lo sl_22 ty_3 (by omega) (by omega) h4 ?_
  refine loop_inv (fun n vs I' H' => I' = I ∧ ∃ (j : Nat) (cur : List Int), nth vs 26 = vi (j - i : Nat) ∧ nth vs 23 = vi (comp l j).length ∧ i + 1 ≤ j ∧ j ≤ l.length ∧ n = l.length - j ∧ cur.length = l.length ∧ H' = upd H0 g (rowA enInt 3 cur rest) ∧
      (comp l j).length + 1 ≤ j ∧ cur.take (comp l j).length = comp l j ∧ ∀ m, j ≤ m + 1 → cur[m]? = l[m]?) (l.length - (i + 1))
    ⟨rfl, i + 1, l, ?_, ?_, by omega, by omega, rfl, rfl, rfl, ?_, ?_, fun _ _ => rfl⟩ ?_
  · rw [show i + 1 - i = 1 from by omega]; rfl
  · rw [comp_old (by omega) h7, hc]; simp [nth]; omega
  · rw [comp_old (by omega) h7, hc]; simp; omega
  · rw [comp_old (by omega) h7, hc]; simp
  rintro n vs I _ k hk ⟨rfl, j, cur, hj, hk1, hj1, hj2, hn, hcl, rfl, hcj, hct, hcm⟩
  rw [hj, hk1]
  refine r_len sl_22 ?_
  refine p_gen (run_lss _ _) ?_
  refine if_dec (fun h8 => ?_) (fun h8 => ?_)
  · have e2 : ((j - i : Nat) : Int) - 1 = ((j - 1 - i : Nat) : Int) := by omega
    have hgx : cur[j]? = some (l.getD j 0) := by rw [hcm j (by omega), List.getD_eq_getElem?_getD, List.getElem?_eq_getElem (by omega)]; rfl
    have hgy : cur[j - 1]? = some (l.getD (j - 1) 0) := by rw [hcm (j - 1) (by omega), List.getD_eq_getElem?_getD, List.getElem?_eq_getElem (by omega)]; rfl
    have hB : Bk I (upd H0 g (rowA enInt 3 cur rest)) g (rowA enInt 3 cur rest) := .inl (upd_same _ _ _)
    refine jn (keep_all ?_)
    refine p_index sl_22 ty_3 (by omega) (by omega) ?_
    refine p_sub (by omega) (by omega) ?_
    rw [e2]
    refine p_index sl_22 ty_3 (by omega) (by omega) ?_
    refine r_at1 ty_3 (At_row enInt hB hgx (by simp [enInt]; omega)) ?_
    refine r_at1 ty_3 (At_row enInt hB hgy (by simp [enInt]; omega)) ?_
    refine p_gen (run_neq _ _) ?_
    refine in_none ?_
    refine if_ndec (fun h9 => ?_) (fun h9 => ?_)
    · refine p_index sl_22 ty_3 (by omega) (by omega) ?_
      refine r_at1 ty_3 (At_row enInt hB hgx (by simp [enInt]; omega)) ?_
      refine p_index sl_22 ty_3 (by omega) (by omega) ?_
      refine stG_row enInt (i := (comp l j).length) (y := l.getD j 0) ty_3 rfl (by omega) (by simp [enInt]) ?_
      refine p_add (by omega) (by omega) ?_
      refine p_add (by omega) (by omega) ?_
      have hcn := comp_new (l := l) (n := j) (by omega) h9
      have hcn2 : (comp l (j + 1)).length = (comp l j).length + 1 := by rw [hcn]; simp
      refine hk (n - 1) _ _ _ (by omega) ⟨rfl, j + 1, _, ?_, ?_, by omega, by omega, by omega, by simp [hcl], rfl, by omega, ?_, fun m hm => ?_⟩
      · rw [show (j + 1 - i : Nat) = j - i + 1 from by omega]; rfl
      · rw [hcn2]; rfl
      · rw [hcn2, set_take _ _ _ (by omega), hct, hcn]
      · rw [List.getElem?_set_ne (by omega)]; exact hcm m (by omega)
    · refine p_add (by omega) (by omega) ?_
      have hcn := comp_old (l := l) (n := j) (by omega) h9
      refine hk (n - 1) _ _ _ (by omega) ⟨rfl, j + 1, cur, ?_, by rw [hcn]; rfl, by omega, by omega, by omega, hcl, rfl, by rw [hcn]; omega, by rw [hcn]; exact hct, fun m hm => hcm m (by omega)⟩
      rw [show (j + 1 - i : Nat) = j - i + 1 from by omega]; rfl
  · have e3 : j = l.length := by omega
    subst e3
    have hcl2 := comp_len l l.length
    refine p_slice_lo sl_22 ty_3 (by omega) (by omega) h4 ?_
    refine ac_clear row_22 zero_3 rfl (upd_same _ _ _) (by simp [encs_len, hcl, enInt]; omega) fun zs hz => ?_
    refine p_slice_hi sl_22 ty_3 (by omega) ?_
    refine ⟨rfl, ?_⟩
    have hrow : setN (encs enInt cur ++ rest).toArray.toList (0 + (comp l l.length).length * 1) zs = encs enInt (compactL l) ++ (zs ++ rest) := by
      have h1 : encs enInt cur = encs enInt (cur.take (comp l l.length).length) ++ encs enInt (cur.drop (comp l l.length).length) := by rw [← encs_append, List.take_append_drop]
      have h2 : (encs enInt (compactL l)).length = (comp l l.length).length := by rw [encs_len]; simp [enInt, compactL]
      rw [hct] at h1
      have h3 : (encs enInt (cur.drop (comp l l.length).length)).length = l.length - (comp l l.length).length := by rw [encs_len]; simp [enInt, hcl]
      have h4 := setN_mid (encs enInt (compactL l)) (encs enInt (cur.drop (comp l l.length).length)) rest zs (by rw [h3, hz, Nat.mul_one])
      rw [h2] at h4
      rw [Nat.zero_add, Nat.mul_one, ← h4, h1]
      rfl
    rw [upd_upd, hrow]
    exact Ro.mk h3 (by simp [compactL]; omega) h5 (by simp [compactL, enInt, hz] at h6 ⊢; omega)
end Go.Proofs.Ytibgbapeblicjaa
