/- A number picked out of a list; the path of a broker in ten steps; a link put into a graph. -/
import Derived.Test.YtibgbapeblicjaaXc
import Derived.Test.YtibgbapeblicjaaWm
import Derived.Test.YtibgbapeblicjaaWn
set_option linter.unusedVariables false
namespace Go.Proofs.Ytibgbapeblicjaa
open Go
set_option maxRecDepth 100000
/- broadside/broadsidekeep.pick -/
def S23 (a0 a1 : Value) (I : Imm) (H : PH) (R : KV) : Prop :=
  wRead PP (Builtin.len_ #[22] 3 #[a0]) I H fun t6 =>
  wPure PP (semBin .eql 3 false true t6 (vi 0)) fun t7 =>
  wIf t7 (
    R (vi 0) I H) (
  wRead PP (Builtin.len_ #[22] 3 #[a0]) I H fun t11 =>
  wPure PP (semBin .rem 3 false false a1 t11) fun t12 =>
  wPure PP (Instr.indexAt 22 a0 t12) fun t13 =>
  wRead PP (Instr.loadAt 3 t13) I H fun t14 =>
  R t14 I H)
theorem S23_eq (a0 a1 : Value) (I : Imm) (H : PH) (R : KV) : WF PP [] Try.f23 [a0, a1] I H R = S23 a0 a1 I H R := by kernel_rfl
theorem S23_ok {a0 a1 : Value} {I : Imm} {H : PH} {R : KV} (h : S23 a0 a1 I H R) : CallA PP 23 [a0, a1] I H R :=
  WF.ok (P := PP) (f := 23) (fn := Try.f23) (ord := []) (args := [a0, a1]) follows Try.func23 (by kernel_rfl) (by kernel_rfl) (by kernel_rfl) ((S23_eq a0 a1 I H R).mpr h)

/- broadside/broadsidelaw21.TreesTells$1 -/
def S7 (a0 a1 : Value) (I : Imm) (H : PH) (R : KV) : Prop :=
  wJ (fun J =>
    wLoop (fun kc vs_1 I H =>
      wPure PP (semBin .lss 3 false true (nth vs_1 27) (vi 10)) fun t6 =>
      wIf t6 (
        wJ (fun J_1 =>
          wPure PP (semBin .lss 3 false true (nth vs_1 25) (vi 0)) fun t8 =>
          wGuard t8 false (fun k => k (nth vs_1 25) I H) (fun t10 I H =>
          wGuard t8 false (fun k => wRead PP (Instr.loadAt 22 a1) I H fun v => k v I H) (fun t11 I H =>
          wGuard t8 false (fun k => wRead PP (Builtin.len_ #[22] 3 #[t11]) I H fun v => k v I H) (fun t12 I H =>
          wGuard t8 false (fun k => wPure PP (semBin .geq 3 false false t10 t12) fun v => k v I H) (fun t13 I H =>
          wPure PP (semPick t8 (vb true) t13) fun t14 =>
          wIf t14 (
            R (Value.slice none 0 0) I H) (
          wMake PP (Instr.buildSlice 22 1 #[(0, (nth vs_1 25))]) I H fun t17 H =>
          wAct PP (Builtin.append_ #[22, 22] 22 #[(nth vs_1 14), t17]) I H fun t18 I H =>
          wRead PP (Instr.loadAt 22 a1) I H fun t19 =>
          wPure PP (Instr.indexAt 22 t19 (nth vs_1 25)) fun t21 =>
          wRead PP (Instr.loadAt 3 t21) I H fun t22 =>
          wPure PP (semBin .eql 3 false true t22 (vi (-1))) fun t23 =>
          wIf t23 (
            R t18 I H) (
          wRead PP (Instr.loadAt 22 a1) I H fun t25 =>
          wPure PP (Instr.indexAt 22 t25 (nth vs_1 25)) fun t27 =>
          wRead PP (Instr.loadAt 3 t27) I H fun t28 =>
          J_1 [(nth vs_1 25), t8, t8, t10, t11, t12, t13, t14, (nth vs_1 9), (nth vs_1 14), (nth vs_1 25), t17, t18, t18, t19, (nth vs_1 25), t21, t22, t23, (nth vs_1 20), t25, (nth vs_1 25), t27, t28, t28] I H))) I H) I H) I H) I H)
        (fun vs_2 I H =>
        wPure PP (semBin .add 3 false true (nth vs_1 27) (vi 1)) fun t29 =>
        kc [t6, (nth vs_2 0), (nth vs_2 1), (nth vs_2 2), (nth vs_2 3), (nth vs_2 4), (nth vs_2 5), (nth vs_2 6), (nth vs_2 7), (nth vs_2 8), (nth vs_2 9), (nth vs_2 10), (nth vs_2 11), (nth vs_2 12), (nth vs_2 13), (nth vs_2 14), (nth vs_2 15), (nth vs_2 16), (nth vs_2 17), (nth vs_2 18), (nth vs_2 19), (nth vs_2 20), (nth vs_2 21), (nth vs_2 22), (nth vs_2 23), (nth vs_2 24), t29, t29] I H)) (
        J [t6, (nth vs_1 1), (nth vs_1 2), (nth vs_1 3), (nth vs_1 4), (nth vs_1 5), (nth vs_1 6), (nth vs_1 7), (nth vs_1 8), (nth vs_1 9), (nth vs_1 10), (nth vs_1 11), (nth vs_1 12), (nth vs_1 13), (nth vs_1 14), (nth vs_1 15), (nth vs_1 16), (nth vs_1 17), (nth vs_1 18), (nth vs_1 19), (nth vs_1 20), (nth vs_1 21), (nth vs_1 22), (nth vs_1 23), (nth vs_1 24), (nth vs_1 25), (nth vs_1 26), (nth vs_1 27)] I H))
      [undef, undef, undef, undef, undef, undef, undef, undef, undef, (Value.slice none 0 0), undef, undef, undef, undef, (Value.slice none 0 0), undef, undef, undef, undef, undef, undef, undef, undef, undef, undef, a0, undef, (vi 0)] I H)
  (fun vs I H =>
  R (Value.slice none 0 0) I H)
theorem S7_eq (a0 a1 : Value) (I : Imm) (H : PH) (R : KV) : WF PP [] Try.f7 [a0, a1] I H R = S7 a0 a1 I H R := by kernel_rfl
theorem S7_ok {a0 a1 : Value} {I : Imm} {H : PH} {R : KV} (h : S7 a0 a1 I H R) : CallA PP 7 [a0, a1] I H R :=
  WF.ok (P := PP) (f := 7) (fn := Try.f7) (ord := []) (args := [a0, a1]) follows Try.func7 (by kernel_rfl) (by kernel_rfl) (by kernel_rfl) ((S7_eq a0 a1 I H R).mpr h)

/- (broadside/broadsidekeep.Graph).Graph$1 -/
def S22 (a0 a1 a2 a3 : Value) (I : Imm) (H : PH) (R : KV) : Prop :=
  wPure PP (semBin .neq 3 false false a0 a1) fun t8 =>
  wGuard t8 true (fun k => wRead PP (Instr.loadAt 60 a2) I H fun v => k v I H) (fun t10 I H =>
  wGuard t8 true (fun k => k a0 I H) (fun t11 I H =>
  wGuard t8 true (fun k => k a1 I H) (fun t12 I H =>
  wGuard t8 true (fun k => wPure PP (Instr.build 61 #[(0, t11), (1, t12)]) fun v => k v I H) (fun t13 I H =>
  wGuard t8 true (fun k => wRead PP (Instr.lookup 60 t10 t13 false) I H fun v => k v I H) (fun t14 I H =>
  wGuard t8 true (fun k => wPure PP (Op.unary .not t14) fun v => k v I H) (fun t15 I H =>
  wPure PP (semPick t8 t15 (vb false)) fun t16 =>
  wGuard t16 true (fun k => wRead PP (Instr.loadAt 60 a2) I H fun v => k v I H) (fun t18 I H =>
  wGuard t16 true (fun k => k a1 I H) (fun t19 I H =>
  wGuard t16 true (fun k => k a0 I H) (fun t20 I H =>
  wGuard t16 true (fun k => wPure PP (Instr.build 61 #[(0, t19), (1, t20)]) fun v => k v I H) (fun t21 I H =>
  wGuard t16 true (fun k => wRead PP (Instr.lookup 60 t18 t21 false) I H fun v => k v I H) (fun t22 I H =>
  wGuard t16 true (fun k => wPure PP (Op.unary .not t22) fun v => k v I H) (fun t23 I H =>
  wPure PP (semPick t16 t23 (vb false)) fun t24 =>
  wJ (fun J =>
    wIf t24 (
      wRead PP (Instr.loadAt 60 a2) I H fun t25 =>
      wPure PP (Instr.build 61 #[(0, a0), (1, a1)]) fun t28 =>
      wAct PP (Instr.mapUpdate 60 t25 t28 (vb true)) I H fun _ I H =>
      wPure PP (Instr.fieldAt 27 a3 1) fun t29 =>
      wRead PP (Instr.loadAt 25 t29) I H fun t30 =>
      wPure PP (Instr.build 61 #[(0, a0), (1, a1)]) fun t33 =>
      wMake PP (Instr.buildSlice 25 1 #[(0, t33)]) I H fun t34 H =>
      wAct PP (Builtin.append_ #[25, 25] 25 #[t30, t34]) I H fun t35 I H =>
      wPure PP (Instr.fieldAt 27 a3 1) fun t36 =>
      wAct PP (Instr.storeAt 25 t36 t35) I H fun _ I H =>
      J [t25, a0, a1, t28, t29, t30, a0, a1, t33, t34, t35, t36] I H) (
      J [undef, undef, undef, undef, undef, undef, undef, undef, undef, undef, undef, undef] I H))
  (fun vs I H =>
  R (.tuple #[]) I H)) I H) I H) I H) I H) I H) I H) I H) I H) I H) I H) I H) I H
theorem S22_eq (a0 a1 a2 a3 : Value) (I : Imm) (H : PH) (R : KV) : WF PP [] Try.f22 [a0, a1, a2, a3] I H R = S22 a0 a1 a2 a3 I H R := by kernel_rfl
theorem S22_ok {a0 a1 a2 a3 : Value} {I : Imm} {H : PH} {R : KV} (h : S22 a0 a1 a2 a3 I H R) : CallA PP 22 [a0, a1, a2, a3] I H R :=
  WF.ok (P := PP) (f := 22) (fn := Try.f22) (ord := []) (args := [a0, a1, a2, a3]) follows Try.func22 (by kernel_rfl) (by kernel_rfl) (by kernel_rfl) ((S22_eq a0 a1 a2 a3 I H R).mpr h)


def pickL (xs : List Int) (i : Int) : Int := if xs.length = 0 then 0 else xs.getD (i.tmod xs.length).toNat 0
theorem pick_spec {v : Value} {xs : List Int} (i : Int) (hi : 0 ≤ i) (I : Imm) (H : PH) (hs : Sl elInt (Bk I H) v xs) :
    CallA PP 23 [v, vi i] I H (fun v I' H' => H' = H ∧ I' = I ∧ v = vi (pickL xs i)) := by
  refine S23_ok ?_
  refine r_slen sl_22 hs ?_
  refine p_gen (run_eql _ _) ?_
  refine if_dec (fun h => ⟨rfl, rfl, by rw [pickL, if_pos (by omega)]⟩) (fun h => ?_)
  refine r_slen sl_22 hs ?_
  refine p_gen (run_rem _ _ h) ?_
  have h1 : 0 ≤ i.tmod xs.length := Int.tmod_nonneg _ hi
  have hpos : 0 < xs.length := by omega
  have h2 : i.tmod xs.length < xs.length := Int.tmod_lt_of_pos _ (Int.natCast_pos.2 hpos)
  refine p_iidx sl_22 ty_3 hs h1 (toNat_get h1 h2) fun b o hat => ?_
  refine r_at1 ty_3 hat ?_
  exact ⟨rfl, rfl, by rw [pickL, if_neg (by omega)]⟩

def path10Go (ps : List Int) : Nat → Int → List Int → List Int
  | 0, _, _ => []
  | f + 1, v, out => if v < 0 ∨ (ps.length : Int) ≤ v then [] else if ps.getD v.toNat 0 = -1 then out ++ [v] else path10Go ps f (ps.getD v.toNat 0) (out ++ [v])
def path10 (ps : List Int) (v : Int) : List Int := path10Go ps 10 v []
theorem path10Go_len (ps : List Int) : ∀ (f : Nat) (b : Int) (out : List Int), (path10Go ps f b out).length ≤ out.length + f
  | 0, _, _ => by simp [path10Go]
  | f + 1, b, out => by
    unfold path10Go
    split
    · simp
    · split
      · simp
      · have := path10Go_len ps f (ps.getD b.toNat 0) (out ++ [b])
        simp only [List.length_append, List.length_singleton] at this; omega
theorem path10_spec {b8 : Nat} {T : TypeId} {pv : Value} {ps : List Int} (b : Int) (I : Imm) (H : PH) (hb : H b8 = some (.cells #[pv] T (0, 0))) (hs : Sl elInt (Bk I H) pv ps) :
    CallA PP 7 [vi b, ptr b8 0] I H (fun v I' H' => H' = H ∧ Sl elInt (Im I') v (path10 ps b)) := by
  refine CallA.fin (S7_ok ?_)
  refine loop_inv (fun n vs I' H' => I' = I ∧ ∃ (c : Int) (ov : Value) (out : List Int), nth vs 27 = vi (10 - n : Nat) ∧ n ≤ 10 ∧ nth vs 25 = vi c ∧ nth vs 14 = ov ∧ Ro enInt 3 H H' ov out ∧ out.length + n = 10 ∧ path10Go ps n c out = path10 ps b) 10
    ⟨rfl, b, _, [], rfl, by omega, rfl, rfl, Ro.nil _ _ _, by simp, rfl⟩ ?_
  rintro n vs I H1 k hk ⟨rfl, c, ov, out, hi, hn10, hc, hov, hr, hn, hp⟩
  rw [hi]
  have hs1 := hs.mono (Bk_sub hr.sub)
  refine p_gen (run_lss _ _) ?_
  refine if_dec (fun h0 => ?_) (fun h0 => ?_)
  case refine_2 =>
    intro hd
    refine ⟨_, _, fun w hw => hw.less hr.sub, .refl _, rfl, ?_⟩
    have : n = 0 := by omega
    subst this
    rw [← hp]
    exact Sl.nil _ _
  obtain ⟨m, rfl⟩ : ∃ m, n = m + 1 := ⟨n - 1, by omega⟩
  simp only [path10Go] at hp
  rw [hc, hov]
  have rp : ∀ {H2 : PH} {K : Value → Prop}, Sub H H2 → K pv → wRead PP (Instr.loadAt 22 (ptr b8 0)) I H2 K := fun hsb h => ld1 (v := pv) ty_22 (.inl (hsb _ _ hb)) rfl h
  have none_ : (c < 0 ∨ (ps.length : Int) ≤ c) → (fun v I' H' => Dj I' H' → ∃ I2 H2, (∀ w, Sat I' H' w → Sat I2 H2 w) ∧ I'.le I2 ∧ H2 = H ∧ Sl elInt (Im I2) v (path10 ps b)) (.slice none 0 0) I H1 := by
    intro h _
    refine ⟨_, _, fun w hw => hw.less hr.sub, .refl _, rfl, ?_⟩
    rw [← hp, if_pos h]
    exact Sl.nil _ _
  refine jn (p_gen (run_lss _ _) ?_)
  by_cases h1 : c < 0
  · refine g_skip (decide_eq_true h1) (g_skip (decide_eq_true h1) (g_skip (decide_eq_true h1) (g_skip (decide_eq_true h1) (p_pick_t (decide_eq_true h1) (if_t ?_)))))
    exact none_ (.inl h1)
  refine g_do (decide_eq_false h1) (g_do (decide_eq_false h1) (rp hr.sub ?_))
  refine g_do (decide_eq_false h1) (r_slen sl_22 hs1 ?_)
  refine g_do (decide_eq_false h1) (p_gen (run_geq _ _) ?_)
  refine p_pick_f (decide_eq_false h1) ?_
  refine if_dec (fun h2 => none_ (.inr h2)) (fun h2 => ?_)
  rw [if_neg (by omega)] at hp
  refine mk_lit (L := []) (H := H1) [vi c] sl_22 ty_3 zero_3 rfl rfl rfl rfl (by simp) (by simp) (ND.nil H1) fun b15 hb15 hnd => ?_
  refine ap_en row_22 hr [c] 1 hnd.top rfl rfl (by omega) (by decide) fun v' H2 hr2 => ?_
  have hs2 := hs.mono (Bk_sub (I := I) hr2.sub)
  have hx := toNat_get (xs := ps) (i := c) (by omega) (by omega)
  refine rp hr2.sub ?_
  refine p_iidx sl_22 ty_3 hs2 (by omega) hx fun bb oo hat => ?_
  refine r_at1 ty_3 hat ?_
  refine p_gen (run_eql _ _) ?_
  refine if_dec (fun h3 => ?_) (fun h3 => ?_)
  · intro hd
    obtain ⟨I2, h4, h5, h6⟩ := hr2.freeze hd
    rw [if_pos h3] at hp
    exact ⟨I2, _, h4, h5, rfl, by rw [← hp]; exact h6⟩
  · rw [if_neg h3] at hp
    refine rp hr2.sub ?_
    refine p_iidx sl_22 ty_3 hs2 (by omega) hx fun bb oo hat => ?_
    refine r_at1 ty_3 hat ?_
    refine p_add (by omega) (by omega) ?_
    exact hk m _ _ _ (by omega) ⟨rfl, _, _, _, (by rw [show (10 - m : Nat) = 10 - (m + 1) + 1 from by omega]; rfl), by omega, rfl, rfl, hr2, by simp; omega, hp⟩
/-! ### A link put into a graph -/
abbrev gC (b4 b3 r : Nat) (nb : Int) (lv : Value) (mo : Obj) : List (Nat × Obj) := [(b4, .cells #[.map (some r)] 60 (0, 0)), (b3, .cells #[vi nb, lv] 27 (0, 0)), (r, mo)]
def putL (ls : List (Int × Int)) (a b : Int) : List (Int × Int) := if a ≠ b ∧ (a, b) ∉ ls ∧ (b, a) ∉ ls then ls ++ [(a, b)] else ls
def okI (a : Int) : Prop := -9223372036854775808 ≤ a ∧ a ≤ 9223372036854775807
theorem lkv_mem {ls : List (Int × Int)} {a b : Int} : lkv (a, b) ∈ ls.map lkv ↔ (a, b) ∈ ls := by
  constructor
  · intro h
    obtain ⟨x, hx, he⟩ := List.mem_map.1 h
    have : x = (a, b) := by
      injection he with he
      have h1 := congrArg (fun z : Array Value => z.toList) he
      simp at h1
      exact Prod.ext h1.1 h1.2
    rwa [← this]
  · exact fun h => List.mem_map.2 ⟨_, h, rfl⟩
theorem put_spec {b4 b3 r : Nat} {nb : Int} {lv : Value} {mo : Obj} {ls : List (Int × Int)} {Lr : List (Nat × Obj)} (a b : Int) (ha : okI a) (hb : okI b) (hl : ls.length ≤ 1000000) (hr : RL enP 61 lv ls Lr) (hm : MSet PP 61 mo (ls.map lkv))
    (I : Imm) (H : PH) (hnd : ND (gC b4 b3 r nb lv mo ++ Lr) H) :
    CallA PP 22 [vi a, vi b, ptr b4 0, ptr b3 0] I (upds (gC b4 b3 r nb lv mo ++ Lr) H) (fun v I' H' => ∃ L', H' = upds L' H ∧ ND L' H ∧ I' = I ∧ ∃ lv' mo' Lr', L' = gC b4 b3 r nb lv' mo' ++ Lr' ∧
      RL enP 61 lv' (putL ls a b) Lr' ∧ MSet PP 61 mo' ((putL ls a b).map lkv)) := by
  refine S22_ok ?_
  have done : putL ls a b = ls → ∃ L', upds (gC b4 b3 r nb lv mo ++ Lr) H = upds L' H ∧ ND L' H ∧ I = I ∧ ∃ lv' mo' Lr', L' = gC b4 b3 r nb lv' mo' ++ Lr' ∧
      RL enP 61 lv' (putL ls a b) Lr' ∧ MSet PP 61 mo' ((putL ls a b).map lkv) := fun e => ⟨_, rfl, hnd, rfl, lv, mo, Lr, rfl, by rw [e]; exact hr, by rw [e]; exact hm⟩
  refine p_gen (run_neq _ _) ?_
  by_cases h1 : a = b
  · have e : (!decide (a = b)) = false := by simp [h1]
    refine g_skip e (g_skip e (g_skip e (g_skip e (g_skip e (g_skip e (p_pick_f e ?_))))))
    refine g_skip rfl (g_skip rfl (g_skip rfl (g_skip rfl (g_skip rfl (g_skip rfl (p_pick_f rfl ?_))))))
    exact if_f (done (by rw [putL, if_neg (fun h => h.1 h1)]))
  have e : (!decide (a = b)) = true := by simp [h1]
  refine g_do e (lo1 (v := .map (some r)) ty_60 hnd 0 rfl rfl ?_)
  refine g_do e (g_do e (g_do e (p_build #[vi a, vi b] (by kernel_rfl) ?_)))
  refine g_do e (r_mget map_60 zero_4 klaw_61 (key_61 a b ha hb) (.inl (hnd.get 2 rfl)) hm fun c1 hc1 => ?_)
  refine g_do e (p_not ?_)
  refine p_pick_t e ?_
  have hc1' : c1 = true ↔ (a, b) ∈ ls := hc1.trans lkv_mem
  cases c1
  case true =>
    refine g_skip rfl (g_skip rfl (g_skip rfl (g_skip rfl (g_skip rfl (g_skip rfl (p_pick_f rfl ?_))))))
    exact if_f (done (by rw [putL, if_neg (fun h => h.2.1 (hc1'.1 rfl))]))
  refine g_do rfl (lo1 (v := .map (some r)) ty_60 hnd 0 rfl rfl ?_)
  refine g_do rfl (g_do rfl (g_do rfl (p_build #[vi b, vi a] (by kernel_rfl) ?_)))
  refine g_do rfl (r_mget map_60 zero_4 klaw_61 (key_61 b a hb ha) (.inl (hnd.get 2 rfl)) hm fun c2 hc2 => ?_)
  refine g_do rfl (p_not ?_)
  refine p_pick_t rfl ?_
  have hc2' : c2 = true ↔ (b, a) ∈ ls := hc2.trans lkv_mem
  cases c2
  case true => exact if_f (done (by rw [putL, if_neg (fun h => h.2.2 (hc2'.1 rfl))]))
  have n1 : (a, b) ∉ ls := fun h => by have := hc1'.2 h; cases this
  have n2 : (b, a) ∉ ls := fun h => by have := hc2'.2 h; cases this
  have eput : putL ls a b = ls ++ [(a, b)] := by rw [putL, if_pos ⟨h1, n1, n2⟩]
  refine jn (if_t ?_)
  refine lo1 (v := .map (some r)) ty_60 hnd 0 rfl rfl ?_
  refine p_build #[vi a, vi b] (by kernel_rfl) ?_
  refine ac_mset map_60 klaw_61 (key_61 a b ha hb) (hnd.get 2 rfl) hm fun mo' S' hm' _ hS => ?_
  have hS := hS (fun h => n1 (lkv_mem.1 h))
  rw [← upds_set hnd mo' (k := 2) rfl]
  replace hnd := hnd.set mo' (k := 2) rfl
  change ND (gC b4 b3 r nb lv mo' ++ Lr) H at hnd
  refine p_gen (fld_27_1 _ _) ?_
  refine lo1 (v := lv) ty_25 hnd 1 rfl rfl ?_
  refine p_build #[vi a, vi b] (by kernel_rfl) ?_
  refine mk_lit (L := gC b4 b3 r nb lv mo' ++ Lr) [lkv (a, b)] sl_25 ty_61 zero_61 rfl rfl rfl rfl (by simp) (by simp) hnd fun b34 hb34 hnd => ?_
  refine ap_RL row_25 (L0 := gC b4 b3 r nb lv mo') (fun Lr' => gC b4 b3 r nb lv mo' ++ Lr') hnd hr List.perm_append_comm (fun _ => List.perm_append_comm) [(a, b)] 1 rfl rfl (by omega) (by decide) fun lv' Lr' hrl' hnd => ?_
  obtain ⟨la, ln, lc, hlv'⟩ := hrl'.val
  refine p_gen (fld_27_1 _ _) ?_
  refine stL ty_25 hnd 1 (gC b4 b3 r nb lv' mo' ++ Lr') rfl (by subst hlv'; rfl) (by simp) (by subst hlv'; rfl) (by subst hlv'; rfl) fun hnd => ?_
  refine ⟨_, rfl, hnd, rfl, lv', mo', Lr', rfl, by rw [eput]; exact hrl', ?_⟩
  rw [hS] at hm'
  rw [eput, List.map_append]; exact hm'
theorem putL_len (ls : List (Int × Int)) (a b : Int) : (putL ls a b).length ≤ ls.length + 1 := by unfold putL; split <;> simp
theorem ND.split {A B : List (Nat × Obj)} {H : PH} (h : ND (A ++ B) H) : ND A (upds B H) ∧ ND B H := by
  have h1 := h.nd
  rw [List.map_append, List.nodup_append] at h1
  refine ⟨⟨h1.1, fun p hp => ?_⟩, ⟨h1.2.1, fun p hp => h.out p (List.mem_append_right _ hp)⟩⟩
  rw [upds_out (fun hm => h1.2.2 _ (List.mem_map_of_mem hp) _ hm rfl)]
  exact h.out p (List.mem_append_left _ hp)
end Go.Proofs.Ytibgbapeblicjaa
