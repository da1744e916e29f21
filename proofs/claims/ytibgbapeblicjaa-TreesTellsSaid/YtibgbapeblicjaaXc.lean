/- Links of graphs, paths of parents. -/
import Derived.Test.YtibgbapeblicjaaXb
set_option linter.unusedVariables false
namespace Go.Proofs.Ytibgbapeblicjaa
open Go
set_option maxRecDepth 100000
/- broadside/trees.Path -/
def S10 (a0 a1 : Value) (I : Imm) (H : PH) (R : KV) : Prop :=
  wJ (fun J =>
    wLoop (fun kc vs_1 I H =>
      wPure PP (semBin .geq 3 false true (nth vs_1 31) (vi 0)) fun t7 =>
      wGuard t7 true (fun k => k (nth vs_1 31) I H) (fun t9 I H =>
      wGuard t7 true (fun k => k a0 I H) (fun t10 I H =>
      wGuard t7 true (fun k => wRead PP (Builtin.len_ #[22] 3 #[t10]) I H fun v => k v I H) (fun t11 I H =>
      wGuard t7 true (fun k => wPure PP (semBin .lss 3 false false t9 t11) fun v => k v I H) (fun t12 I H =>
      wPure PP (semPick t7 t12 (vb false)) fun t13 =>
      wGuard t13 true (fun k => k (nth vs_1 19) I H) (fun t15 I H =>
      wGuard t13 true (fun k => wRead PP (Builtin.len_ #[22] 3 #[t15]) I H fun v => k v I H) (fun t16 I H =>
      wGuard t13 true (fun k => k a0 I H) (fun t17 I H =>
      wGuard t13 true (fun k => wRead PP (Builtin.len_ #[22] 3 #[t17]) I H fun v => k v I H) (fun t18 I H =>
      wGuard t13 true (fun k => wPure PP (semBin .lss 3 false false t16 t18) fun v => k v I H) (fun t19 I H =>
      wPure PP (semPick t13 t19 (vb false)) fun t20 =>
      wIf t20 (
        wJ (fun J_1 =>
          wMake PP (Instr.buildSlice 22 1 #[(0, (nth vs_1 31))]) I H fun t23 H =>
          wAct PP (Builtin.append_ #[22, 22] 22 #[(nth vs_1 19), t23]) I H fun t24 I H =>
          wPure PP (Instr.indexAt 22 a0 (nth vs_1 31)) fun t27 =>
          wRead PP (Instr.loadAt 3 t27) I H fun t28 =>
          wPure PP (semBin .eql 3 false true t28 (vi (-1))) fun t29 =>
          wIf t29 (
            R t24 I H) (
          wPure PP (Instr.indexAt 22 a0 (nth vs_1 31)) fun t33 =>
          wRead PP (Instr.loadAt 3 t33) I H fun t34 =>
          J_1 [(nth vs_1 19), (nth vs_1 31), t23, t24, t24, a0, (nth vs_1 31), t27, t28, t29, (nth vs_1 25), (nth vs_1 26), a0, (nth vs_1 31), t33, t34, t34] I H))
        (fun vs_2 I H =>
        kc [(nth vs_1 31), t7, t7, t9, t10, t11, t12, t13, t13, t15, t16, t17, t18, t19, t20, (nth vs_2 0), (nth vs_2 1), (nth vs_2 2), (nth vs_2 3), (nth vs_2 4), (nth vs_2 5), (nth vs_2 6), (nth vs_2 7), (nth vs_2 8), (nth vs_2 9), (nth vs_2 10), (nth vs_2 11), (nth vs_2 12), (nth vs_2 13), (nth vs_2 14), (nth vs_2 15), (nth vs_2 16)] I H)) (
        J [(nth vs_1 31), t7, t7, t9, t10, t11, t12, t13, t13, t15, t16, t17, t18, t19, t20, (nth vs_1 15), (nth vs_1 16), (nth vs_1 17), (nth vs_1 18), (nth vs_1 19), (nth vs_1 20), (nth vs_1 21), (nth vs_1 22), (nth vs_1 23), (nth vs_1 24), (nth vs_1 25), (nth vs_1 26), (nth vs_1 27), (nth vs_1 28), (nth vs_1 29), (nth vs_1 30), (nth vs_1 31)] I H)) I H) I H) I H) I H) I H) I H) I H) I H) I H)
      [undef, undef, undef, undef, undef, undef, undef, undef, undef, undef, undef, undef, undef, undef, undef, undef, undef, undef, undef, (Value.slice none 0 0), undef, undef, undef, undef, undef, undef, (Value.slice none 0 0), undef, undef, undef, undef, a1] I H)
  (fun vs I H =>
  R (Value.slice none 0 0) I H)
theorem S10_eq (a0 a1 : Value) (I : Imm) (H : PH) (R : KV) : WF PP [] Try.f10 [a0, a1] I H R = S10 a0 a1 I H R := by kernel_rfl
theorem S10_ok {a0 a1 : Value} {I : Imm} {H : PH} {R : KV} (h : S10 a0 a1 I H R) : CallA PP 10 [a0, a1] I H R :=
  WF.ok (P := PP) (f := 10) (fn := Try.f10) (ord := []) (args := [a0, a1]) follows Try.func10 (by kernel_rfl) (by kernel_rfl) (by kernel_rfl) ((S10_eq a0 a1 I H R).mpr h)

/- broadside/trees.Depth -/
def S11 (a0 a1 : Value) (I : Imm) (H : PH) (R : KV) : Prop :=
  wCall PP (vf 10) [a0, a1] I H fun t7 I H =>
  wRead PP (Builtin.len_ #[22] 3 #[t7]) I H fun t8 =>
  wPure PP (semBin .sub 3 false true t8 (vi 1)) fun t9 =>
  R t9 I H
theorem S11_eq (a0 a1 : Value) (I : Imm) (H : PH) (R : KV) : WF PP [] Try.f11 [a0, a1] I H R = S11 a0 a1 I H R := by kernel_rfl
theorem S11_ok {a0 a1 : Value} {I : Imm} {H : PH} {R : KV} (h : S11 a0 a1 I H R) : CallA PP 11 [a0, a1] I H R :=
  WF.ok (P := PP) (f := 11) (fn := Try.f11) (ord := []) (args := [a0, a1]) follows Try.func11 (by kernel_rfl) (by kernel_rfl) (by kernel_rfl) ((S11_eq a0 a1 I H R).mpr h)

/- broadside/trees.Below -/
def S12 (a0 a1 : Value) (I : Imm) (H : PH) (R : KV) : Prop :=
  wRead PP (Builtin.len_ #[22] 3 #[a0]) I H fun t8 =>
  wJ (fun J =>
    wLoop (fun kc vs_1 I H =>
      wPure PP (semBin .lss 3 false false (nth vs_1 14) t8) fun t10 =>
      wIf t10 (
        wJ (fun J_1 =>
          wCall PP (vf 10) [a0, (nth vs_1 14)] I H fun t14 I H =>
          wCall PP (vf 24) [t14, a1] I H fun t16 I H =>
          wJ (fun J_2 =>
            wIf t16 (
              wMake PP (Instr.buildSlice 22 1 #[(0, (nth vs_1 14))]) I H fun t19 H =>
              wAct PP (Builtin.append_ #[22, 22] 22 #[(nth vs_1 12), t19]) I H fun t20 I H =>
              J_2 [(nth vs_1 12), (nth vs_1 14), t19, t20, t20] I H) (
              J_2 [(nth vs_1 8), (nth vs_1 9), (nth vs_1 10), (nth vs_1 11), (nth vs_1 12)] I H))
          (fun vs_3 I H =>
          J_1 [(nth vs_1 14), (nth vs_1 14), a0, (nth vs_1 14), t14, a1, t16, (nth vs_3 0), (nth vs_3 1), (nth vs_3 2), (nth vs_3 3), (nth vs_3 4)] I H))
        (fun vs_2 I H =>
        wPure PP (semBin .add 3 false true (nth vs_1 14) (vi 1)) fun t21 =>
        kc [t10, (nth vs_2 0), (nth vs_2 1), (nth vs_2 2), (nth vs_2 3), (nth vs_2 4), (nth vs_2 5), (nth vs_2 6), (nth vs_2 7), (nth vs_2 8), (nth vs_2 9), (nth vs_2 10), (nth vs_2 11), t21, t21] I H)) (
        J [t10, (nth vs_1 1), (nth vs_1 2), (nth vs_1 3), (nth vs_1 4), (nth vs_1 5), (nth vs_1 6), (nth vs_1 7), (nth vs_1 8), (nth vs_1 9), (nth vs_1 10), (nth vs_1 11), (nth vs_1 12), (nth vs_1 13), (nth vs_1 14)] I H))
      [undef, undef, undef, undef, undef, undef, undef, undef, undef, undef, undef, undef, (Value.slice none 0 0), undef, (vi 0)] I H)
  (fun vs I H =>
  R (nth vs 12) I H)
theorem S12_eq (a0 a1 : Value) (I : Imm) (H : PH) (R : KV) : WF PP [] Try.f12 [a0, a1] I H R = S12 a0 a1 I H R := by kernel_rfl
theorem S12_ok {a0 a1 : Value} {I : Imm} {H : PH} {R : KV} (h : S12 a0 a1 I H R) : CallA PP 12 [a0, a1] I H R :=
  WF.ok (P := PP) (f := 12) (fn := Try.f12) (ord := []) (args := [a0, a1]) follows Try.func12 (by kernel_rfl) (by kernel_rfl) (by kernel_rfl) ((S12_eq a0 a1 I H R).mpr h)


theorem may_spec (nb : Int) (lv : Value) (h1 : lv.oneCell' = true) (l : Int × Int) (I : Imm) (H : PH) : CallA PP 68 [gv nb lv, lkv l] I H (fun v I' H' => H' = H ∧ I' = I ∧ v = .bool (mayL nb l)) := by
  refine CallA.post (S68_ok ?_)
  change S68 _ _ I (upds [] H) _
  have hnd := ND.nil H
  refine mk_box hnd fun b2 hb2 hnd => mk_box hnd fun b3 hb3 hnd => ?_
  refine loW ty_27 hnd 1 rfl rfl ?_
  refine p_gen (run_aidx arr_61 ty_3 (by decide) (by decide)) ?_
  refine lo1 ty_3 hnd 0 rfl rfl ?_
  refine c_call ((broker_spec nb lv h1 l.1 _ _).mono ?_); rintro _ I _ - ⟨rfl, rfl, rfl⟩
  have key : ∀ b : Bool, b = mayL nb l → ∃ I2 H2, (∀ w, Sat I (upds [(b3, .cells (lkv l).cells 61 (0, 0)), (b2, .cells (gv nb lv).cells 27 (0, 0))] H) w → Sat I2 H2 w) ∧ I.le I2 ∧ H2 = H ∧ I2 = I ∧ Value.bool b = .bool (mayL nb l) :=
    fun b hb => ⟨_, _, ends hnd, .refl _, rfl, rfl, by rw [hb]⟩
  cases ha : inB nb l.1
  · iterate 4 refine g_skip rfl ?_
    refine p_pick_f rfl ?_
    iterate 5 refine g_skip rfl ?_
    refine p_pick_f rfl ?_
    exact key _ (by simp [mayL, ha])
  · refine g_do rfl (loW ty_27 hnd 1 rfl rfl ?_)
    refine g_do rfl (p_gen (run_aidx arr_61 ty_3 (by decide) (by decide)) ?_)
    refine g_do rfl (lo1 ty_3 hnd 0 rfl rfl ?_)
    refine g_do rfl ?_
    refine c_call ((broker_spec nb lv h1 l.2 _ _).mono ?_); rintro _ I _ - ⟨rfl, rfl, rfl⟩
    refine p_pick_t rfl ?_
    cases hb : inB nb l.2
    · iterate 5 refine g_skip rfl ?_
      refine p_pick_f rfl ?_
      exact key _ (by simp [mayL, hb])
    · refine g_do rfl (p_gen (run_aidx arr_61 ty_3 (by decide) (by decide)) ?_)
      refine g_do rfl (lo1 ty_3 hnd 0 rfl rfl ?_)
      refine g_do rfl (p_gen (run_aidx arr_61 ty_3 (by decide) (by decide)) ?_)
      refine g_do rfl (lo1 ty_3 hnd 0 rfl rfl ?_)
      refine g_do rfl (p_gen (run_neq _ _) ?_)
      refine p_pick_t rfl ?_
      exact key _ (by simp [mayL, ha, hb])

/-! ### Paths -/
def pathGo (ps : List Int) : Nat → Int → List Int → List Int
  | 0, _, _ => []
  | f + 1, b, out => if 0 ≤ b ∧ b < ps.length then (if ps.getD b.toNat 0 = -1 then out ++ [b] else pathGo ps f (ps.getD b.toNat 0) (out ++ [b])) else []
def pathL (ps : List Int) (b : Int) : List Int := pathGo ps ps.length b []
theorem pathGo_len (ps : List Int) : ∀ (f : Nat) (b : Int) (out : List Int), (pathGo ps f b out).length ≤ out.length + f
  | 0, _, _ => by simp [pathGo]
  | f + 1, b, out => by
    unfold pathGo
    split
    · split
      · simp
      · have := pathGo_len ps f (ps.getD b.toNat 0) (out ++ [b])
        simp only [List.length_append, List.length_singleton] at this; omega
    · simp
theorem pathL_len (ps : List Int) (b : Int) : (pathL ps b).length ≤ ps.length := by have := pathGo_len ps ps.length b []; simpa [pathL] using this
theorem Path_spec {pv : Value} {ps : List Int} (hl : ps.length ≤ 1000000) (b : Int) (I : Imm) (H : PH) (hs : Sl elInt (Bk I H) pv ps) :
    CallA PP 10 [pv, vi b] I H (fun v I' H' => H' = H ∧ Sl elInt (Im I') v (pathL ps b)) := by
  refine CallA.fin (S10_ok ?_)
  refine loop_inv (fun n vs I' H' => I' = I ∧ ∃ (c : Int) (ov : Value) (out : List Int), nth vs 31 = vi c ∧ nth vs 19 = ov ∧ Ro enInt 3 H H' ov out ∧ out.length + n = ps.length ∧ pathGo ps n c out = pathL ps b) ps.length
    ⟨rfl, b, _, [], rfl, rfl, Ro.nil _ _ _, by simp, rfl⟩ ?_
  rintro n vs I H1 k hk ⟨rfl, c, ov, out, hc, hov, hr, hn, hp⟩
  rw [hc, hov]
  have hs1 := hs.mono (Bk_sub hr.sub)
  have hso := hr.sl (B := Bk I H1) (fun _ _ h => .inl h)
  refine p_gen (run_geq _ _) ?_
  by_cases h0 : 0 ≤ c
  case neg =>
    iterate 4 refine g_skip (by simp [h0]) ?_
    refine p_pick_f (by simp [h0]) ?_
    iterate 5 refine g_skip rfl ?_
    refine p_pick_f rfl ?_
    refine if_f ?_
    intro hd
    refine ⟨_, _, fun w hw => hw.less hr.sub, .refl _, rfl, ?_⟩
    rw [← hp]
    cases n <;> simp [pathGo, h0] <;> exact Sl.nil _ _
  refine g_do (by simp [h0]) (g_do (by simp [h0]) (g_do (by simp [h0]) (r_slen sl_22 hs1 ?_)))
  refine g_do (by simp [h0]) (p_gen (run_lss _ _) ?_)
  refine p_pick_t (by simp [h0]) ?_
  by_cases h1 : c < ps.length
  case neg =>
    iterate 5 refine g_skip (by simp [h1]) ?_
    refine p_pick_f (by simp [h1]) ?_
    refine if_f ?_
    intro hd
    refine ⟨_, _, fun w hw => hw.less hr.sub, .refl _, rfl, ?_⟩
    rw [← hp]
    cases n <;> simp [pathGo, h1] <;> exact Sl.nil _ _
  refine g_do (by simp [h1]) (g_do (by simp [h1]) (r_slen sl_22 hso ?_))
  refine g_do (by simp [h1]) (g_do (by simp [h1]) (r_slen sl_22 hs1 ?_))
  refine g_do (by simp [h1]) (p_gen (run_lss _ _) ?_)
  refine p_pick_t (by simp [h1]) ?_
  refine if_dec (fun h2 => ?_) (fun h2 => ?_)
  case refine_2 =>
    intro hd
    refine ⟨_, _, fun w hw => hw.less hr.sub, .refl _, rfl, ?_⟩
    rw [← hp]
    have : n = 0 := by omega
    subst this
    exact Sl.nil _ _
  obtain ⟨m, rfl⟩ : ∃ m, n = m + 1 := ⟨n - 1, by omega⟩
  refine jn ?_
  refine mk_lit (L := []) (H := H1) [vi c] sl_22 ty_3 zero_3 rfl rfl rfl rfl (by simp) (by simp) (ND.nil H1) fun b15 hb15 hnd => ?_
  refine ap_en row_22 hr [c] 1 hnd.top rfl rfl (by omega) (by decide) fun v' H2 hr2 => ?_
  have hs2 := hs.mono (Bk_sub (I := I) hr2.sub)
  have hx := toNat_get (xs := ps) h0 h1
  refine p_iidx sl_22 ty_3 hs2 h0 hx fun bb oo hat => ?_
  refine r_at1 ty_3 hat ?_
  refine p_gen (run_eql _ _) ?_
  simp only [pathGo, h0, h1, and_self, if_true] at hp
  refine if_dec (fun h3 => ?_) (fun h3 => ?_)
  · intro hd
    obtain ⟨I2, h4, h5, h6⟩ := hr2.freeze hd
    rw [if_pos h3] at hp
    exact ⟨I2, _, h4, h5, rfl, by rw [← hp]; exact h6⟩
  · rw [if_neg h3] at hp
    refine p_iidx sl_22 ty_3 hs2 h0 hx fun bb oo hat => ?_
    refine r_at1 ty_3 hat ?_
    exact hk m _ _ _ (by omega) ⟨rfl, _, _, _, rfl, rfl, hr2, by simp; omega, hp⟩
theorem Depth_spec {pv : Value} {ps : List Int} (hl : ps.length ≤ 1000000) (b : Int) (I : Imm) (H : PH) (hs : Sl elInt (Bk I H) pv ps) :
    CallA PP 11 [pv, vi b] I H (fun v I' H' => H' = H ∧ v = vi ((pathL ps b).length - 1)) := by
  refine S11_ok ?_
  refine c_call ((Path_spec hl b I H hs).mono ?_); rintro v I1 _ - ⟨rfl, h1⟩
  have := pathL_len ps b
  refine r_slen sl_22 h1 ?_
  refine p_sub (by omega) (by omega) ?_
  exact ⟨rfl, rfl⟩

/-! ### What is below -/
def ints (f : Nat → Bool) : Nat → List Int
  | 0 => []
  | n + 1 => ints f n ++ (if f n then [(n : Int)] else [])
theorem ints_len (f : Nat → Bool) : ∀ n, (ints f n).length ≤ n
  | 0 => by simp [ints]
  | n + 1 => by have := ints_len f n; simp only [ints, List.length_append]; split <;> simp <;> omega
def belowL (ps : List Int) (b : Int) : List Int := ints (fun x => decide (b ∈ pathL ps x)) ps.length
theorem Below_spec {pv : Value} {ps : List Int} (hl : ps.length ≤ 1000000) (b : Int) (I : Imm) (H : PH) (hs : Sl elInt (Bk I H) pv ps) :
    CallA PP 12 [pv, vi b] I H (fun v I' H' => H' = H ∧ Sl elInt (Im I') v (belowL ps b)) := by
  refine CallA.fin (S12_ok ?_)
  refine r_slen sl_22 hs ?_
  refine loop_inv (fun n vs I' H' => I.le I' ∧ ∃ (i : Nat) (ov : Value), nth vs 14 = vi i ∧ nth vs 12 = ov ∧ i + n = ps.length ∧ Ro enInt 3 H H' ov (ints (fun x => decide (b ∈ pathL ps x)) i)) ps.length
    ⟨.refl I, 0, _, rfl, rfl, by simp, Ro.nil _ _ _⟩ ?_
  rintro n vs I1 H1 k hk ⟨hle, i, ov, hi, hov, hn, hr⟩
  rw [hi, hov]
  have hs1 := hs.mono (Bk_lt hle hr.sub)
  refine p_gen (run_lss _ _) ?_
  refine if_dec (fun h1 => ?_) (fun h1 => ?_)
  case refine_2 =>
    intro hd
    obtain ⟨I2, h4, h5, h6⟩ := hr.freeze hd
    have : i = ps.length := by omega
    subst this
    exact ⟨I2, _, h4, h5, rfl, h6⟩
  refine c_call ((Path_spec hl i I1 H1 hs1).mono ?_); rintro v I2 _ hle2 ⟨rfl, h2⟩
  have hpl := pathL_len ps i
  refine c_call ((Contains_spec b I2 _ (by omega) (h2.mono (Im_Bk _ _))).mono ?_); rintro _ I2 _ - ⟨rfl, rfl, rfl⟩
  refine if_dec (fun h3 => ?_) (fun h3 => ?_)
  · have hil := ints_len (fun x => decide (b ∈ pathL ps x)) i
    refine mk_lit (L := []) [vi i] sl_22 ty_3 zero_3 rfl rfl rfl rfl (by simp) (by simp) (ND.nil _) fun b15 hb15 hnd => ?_
    refine ap_en row_22 hr [(i : Int)] 1 hnd.top rfl rfl (by omega) (by decide) fun v' H2 hr2 => ?_
    refine p_add (by omega) (by omega) ?_
    refine hk (n - 1) _ _ _ (by omega) ⟨hle.trans hle2, i + 1, v', by simp [nth], rfl, by omega, ?_⟩
    simp only [ints, h3, decide_true, if_true]; exact hr2
  · refine p_add (by omega) (by omega) ?_
    refine hk (n - 1) _ _ _ (by omega) ⟨hle.trans hle2, i + 1, ov, by simp [nth], by simp [nth], by omega, ?_⟩
    simpa only [ints, h3, decide_false, Bool.false_eq_true, if_false, List.append_nil] using hr
end Go.Proofs.Ytibgbapeblicjaa
