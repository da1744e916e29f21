/- A graph made of numbers. -/
import Derived.Test.YtibgbapeblicjaaXj
set_option linter.unusedVariables false
namespace Go.Proofs.Ytibgbapeblicjaa
open Go
set_option maxRecDepth 100000
/- (broadside/broadsidekeep.Graph).Graph -/
def S5 (a0 : Value) (I : Imm) (H : PH) (R : KV) : Prop :=
  wMake PP (Instr.box 24 a0) I H fun t1 H =>
  wMake PP (Instr.alloc 27 true (.tuple #[])) I H fun t2 H =>
  wPure PP (Instr.fieldAt 24 t1 0) fun t8 =>
  wRead PP (Instr.loadAt 3 t8) I H fun t9 =>
  wCall PP (vf 6) [t9, (vi 1), (vi 7)] I H fun t10 I H =>
  wPure PP (Instr.build 27 #[(0, t10)]) fun t11 =>
  wMake PP (Instr.alloc 27 true (.tuple #[])) I H fun t3 H =>
  wAct PP (Instr.storeAt 27 t3 t11) I H fun _ I H =>
  wMake PP (Instr.makeMap 60 none) I H fun t12 H =>
  wMake PP (Instr.alloc 60 true (.tuple #[])) I H fun t4 H =>
  wAct PP (Instr.storeAt 60 t4 t12) I H fun _ I H =>
  wJ (fun J =>
    wLoop (fun kc vs_1 I H =>
      wPure PP (Instr.fieldAt 27 t3 0) fun t15 =>
      wRead PP (Instr.loadAt 3 t15) I H fun t16 =>
      wPure PP (semBin .lss 3 false false (nth vs_1 16) t16) fun t17 =>
      wIf t17 (
        wJ (fun J_1 =>
          wPure PP (Instr.fieldAt 24 t1 1) fun t22 =>
          wRead PP (Instr.loadAt 22 t22) I H fun t23 =>
          wCall PP (vf 23) [t23, (nth vs_1 16)] I H fun t25 I H =>
          wPure PP (semBin .sub 3 false true (nth vs_1 16) (vi 1)) fun t27 =>
          wCall PP (vf 6) [t25, (vi 0), t27] I H fun t28 I H =>
          wCall PP (.func (Fn.func 22) #[] #[t4, t3]) [(nth vs_1 16), t28] I H fun t29 I H =>
          J_1 [(.func (Fn.func 22) #[] #[t4, t3]), (nth vs_1 16), t22, t23, (nth vs_1 16), t25, (nth vs_1 16), t27, t28, t29] I H)
        (fun vs_2 I H =>
        wPure PP (semBin .add 3 false true (nth vs_1 16) (vi 1)) fun t19 =>
        kc [(nth vs_1 16), t15, t16, t17, (nth vs_2 0), (nth vs_2 1), (nth vs_2 2), (nth vs_2 3), (nth vs_2 4), (nth vs_2 5), (nth vs_2 6), (nth vs_2 7), (nth vs_2 8), (nth vs_2 9), (nth vs_1 16), t19, t19] I H)) (
        J [(nth vs_1 16), t15, t16, t17, (nth vs_1 4), (nth vs_1 5), (nth vs_1 6), (nth vs_1 7), (nth vs_1 8), (nth vs_1 9), (nth vs_1 10), (nth vs_1 11), (nth vs_1 12), (nth vs_1 13), (nth vs_1 14), (nth vs_1 15), (nth vs_1 16)] I H))
      [undef, undef, undef, undef, undef, undef, undef, undef, undef, undef, undef, undef, undef, undef, undef, undef, (vi 1)] I H)
  (fun vs I H =>
  wJ (fun J_2 =>
    wLoop (fun kc_1 vs_4 I H =>
      wPure PP (Instr.fieldAt 24 t1 2) fun t31 =>
      wRead PP (Instr.loadAt 22 t31) I H fun t32 =>
      wRead PP (Builtin.len_ #[22] 3 #[t32]) I H fun t33 =>
      wPure PP (semBin .lss 3 false false (nth vs_4 32) t33) fun t34 =>
      wGuard t34 true (fun k => k (nth vs_4 32) I H) (fun t36 I H =>
      wGuard t34 true (fun k => wPure PP (semBin .lss 3 false true t36 (vi 8)) fun v => k v I H) (fun t37 I H =>
      wPure PP (semPick t34 t37 (vb false)) fun t38 =>
      wIf t38 (
        wJ (fun J_3 =>
          wKeep H fun Hs Ha =>
          wPure PP (Instr.fieldAt 24 t1 2) fun t42 =>
          wPure PP (Instr.fieldAt 27 t3 0) fun t47 =>
          wPure PP (Instr.fieldAt 24 t1 2) fun t51 =>
          wPure PP (Instr.fieldAt 27 t3 0) fun t57 =>
          wRead PP (Instr.loadAt 22 t42) I (join Hs Ha) fun t43 =>
          wPure PP (Instr.indexAt 22 t43 (nth vs_4 32)) fun t45 =>
          wRead PP (Instr.loadAt 3 t45) I (join Hs Ha) fun t46 =>
          wRead PP (Instr.loadAt 3 t47) I (join Hs Ha) fun t48 =>
          wPure PP (semBin .sub 3 false true t48 (vi 1)) fun t49 =>
          wRead PP (Instr.loadAt 22 t51) I (join Hs Ha) fun t52 =>
          wPure PP (Instr.indexAt 22 t52 (nth vs_4 32)) fun t54 =>
          wRead PP (Instr.loadAt 3 t54) I (join Hs Ha) fun t55 =>
          wPure PP (semBin .quo 3 false true t55 (vi 8)) fun t56 =>
          wRead PP (Instr.loadAt 3 t57) I (join Hs Ha) fun t58 =>
          wPure PP (semBin .sub 3 false true t58 (vi 1)) fun t59 =>
          wCallN PP (vf 6) [t46, (vi 0), t49] I Hs Ha fun t50 I =>
          wCallN PP (vf 6) [t56, (vi 0), t59] I Hs Ha fun t60 I =>
          wCallQ PP (.func (Fn.func 22) #[] #[t4, t3]) [t50, t60] I Hs Ha fun t61 I Ha =>
          wIn I (join Hs Ha) fun I H =>
          J_3 [(.func (Fn.func 22) #[] #[t4, t3]), t42, t43, (nth vs_4 32), t45, t46, t47, t48, t49, t50, t51, t52, (nth vs_4 32), t54, t55, t56, t57, t58, t59, t60, t61] I H)
        (fun vs_5 I H =>
        wPure PP (semBin .add 3 false true (nth vs_4 32) (vi 1)) fun t40 =>
        kc_1 [(nth vs_4 32), t31, t32, t33, t34, t34, t36, t37, t38, (nth vs_5 0), (nth vs_5 1), (nth vs_5 2), (nth vs_5 3), (nth vs_5 4), (nth vs_5 5), (nth vs_5 6), (nth vs_5 7), (nth vs_5 8), (nth vs_5 9), (nth vs_5 10), (nth vs_5 11), (nth vs_5 12), (nth vs_5 13), (nth vs_5 14), (nth vs_5 15), (nth vs_5 16), (nth vs_5 17), (nth vs_5 18), (nth vs_5 19), (nth vs_5 20), (nth vs_4 32), t40, t40] I H)) (
        J_2 [(nth vs_4 32), t31, t32, t33, t34, t34, t36, t37, t38, (nth vs_4 9), (nth vs_4 10), (nth vs_4 11), (nth vs_4 12), (nth vs_4 13), (nth vs_4 14), (nth vs_4 15), (nth vs_4 16), (nth vs_4 17), (nth vs_4 18), (nth vs_4 19), (nth vs_4 20), (nth vs_4 21), (nth vs_4 22), (nth vs_4 23), (nth vs_4 24), (nth vs_4 25), (nth vs_4 26), (nth vs_4 27), (nth vs_4 28), (nth vs_4 29), (nth vs_4 30), (nth vs_4 31), (nth vs_4 32)] I H)) I H) I H)
      [undef, undef, undef, undef, undef, undef, undef, undef, undef, undef, undef, undef, undef, undef, undef, undef, undef, undef, undef, undef, undef, undef, undef, undef, undef, undef, undef, undef, undef, undef, undef, undef, (vi 0)] I H)
  (fun vs_3 I H =>
  wRead PP (Instr.loadAt 27 t3) I H fun t62 =>
  wAct PP (Instr.storeAt 27 t2 t62) I H fun _ I H =>
  wRead PP (Instr.loadAt 27 t2) I H fun r =>
  R r I H))
theorem S5_eq (a0 : Value) (I : Imm) (H : PH) (R : KV) : WF PP [[], [], [], [], [], [], [], [], [], [], [], [0, 1, 3, 6, 10, 12, 16, 1002, 4, 1005, 1007, 8, 1011, 13, 1014, 15, 1017, 18, 1009, 1019, 20]] Try.f5 [a0] I H R = S5 a0 I H R := by kernel_rfl
theorem S5_ok {a0 : Value} {I : Imm} {H : PH} {R : KV} (h : S5 a0 I H R) : CallA PP 5 [a0] I H R :=
  WF.ok (P := PP) (f := 5) (fn := Try.f5) (ord := [[], [], [], [], [], [], [], [], [], [], [], [0, 1, 3, 6, 10, 12, 16, 1002, 4, 1005, 1007, 8, 1011, 13, 1014, 15, 1017, 18, 1009, 1019, 20]]) (args := [a0]) follows Try.func5 (by kernel_rfl) (by kernel_rfl) (by kernel_rfl) ((S5_eq a0 I H R).mpr h)


def treeGo (us : List Int) : Nat → Nat → List (Int × Int) → List (Int × Int)
  | 0, _, ls => ls
  | k + 1, b, ls => treeGo us k (b + 1) (putL ls b (within (pickL us b) 0 ((b : Int) - 1)))
def moreGo (nb : Int) (ms : List Int) : Nat → Nat → List (Int × Int) → List (Int × Int)
  | 0, _, ls => ls
  | k + 1, i, ls => moreGo nb ms k (i + 1) (putL ls (within (ms.getD i 0) 0 (nb - 1)) (within (IntKind.i64.wrap ((ms.getD i 0).tdiv 8)) 0 (nb - 1)))
def graphL (nb : Nat) (us ms : List Int) : List (Int × Int) := moreGo nb ms (min ms.length 8) 0 (treeGo us (nb - 1) 1 [])
abbrev kgv (br : Int) (uv mv : Value) : Value := .agg #[vi br, uv, mv]
theorem Graph_spec {uv mv : Value} {us ms : List Int} (br : Int) (I : Imm) (H : PH) (hu : Sl elInt (Bk I H) uv us) (hmm : Sl elInt (Bk I H) mv ms) :
    CallA PP 5 [kgv br uv mv] I H (fun v I' H' => H' = H ∧ ∃ (nb : Nat) (lv : Value), within br 1 7 = nb ∧ v = gv nb lv ∧ Sl elP (Im I') lv (graphL nb us ms)) := by
  obtain ⟨ua, uc, huv⟩ := hu.len
  obtain ⟨ma, mc, hmv⟩ := hmm.len
  refine CallA.fin (S5_ok ?_)
  refine mk_box (L := []) (ND.nil H) fun b1 hb1 hnd => ?_
  refine mk_alloc zero_27 hnd fun b2 hb2 hnd => ?_
  refine p_gen (fld_24_0 _ _) ?_
  refine lo1 (v := vi br) ty_3 hnd 1 rfl (by subst huv hmv; rfl) ?_
  refine c_call ((Within_spec br 1 7 (by decide) (by decide) (by decide) I _).mono ?_); rintro _ I _ - ⟨rfl, rfl, rfl⟩
  have hw := within_in br (lo := 1) (hi := 7) (by decide)
  obtain ⟨nb, hnb⟩ : ∃ nb : Nat, within br 1 7 = nb := ⟨(within br 1 7).toNat, by omega⟩
  rw [hnb] at hw ⊢
  refine p_build #[vi nb, .slice none 0 0] (by kernel_rfl) ?_
  refine mk_alloc zero_27 hnd fun b3 hb3 hnd => ?_
  refine stL ty_27 hnd 0 [(b3, .cells #[vi nb, .slice none 0 0] 27 (0, 0)), _, _] rfl rfl (by decide) rfl rfl fun hnd => ?_
  refine mk_map hnd fun r hr hnd => ?_
  refine mk_alloc zero_60 hnd fun b4 hb4 hnd => ?_
  refine stL ty_60 hnd 0 [(b4, .cells #[.map (some r)] 60 (0, 0)), (r, .map #[] 0), (b3, .cells #[vi nb, .slice none 0 0] 27 (0, 0)), _, _] rfl rfl (by decide) rfl rfl fun hnd => ?_
  obtain ⟨c2, c1, hperm, hbase⟩ : ∃ o2 o1, [(b4, Obj.cells #[.map (some r)] 60 (0, 0)), (r, .map #[] 0), (b3, .cells #[vi nb, .slice none 0 0] 27 (0, 0)), (b2, o2), (b1, o1)].Perm
      ((gC b4 b3 r nb (.slice none 0 0) (.map #[] 0) ++ []) ++ [(b2, o2), (b1, o1)]) ∧ ∃ h : o1 = .cells (kgv br uv mv).cells 24 (0, 0), o2 = .cells (Value.agg #[vi 0, .slice none 0 0]).cells 27 (0, 0) := ⟨_, _, .cons _ (.swap _ _ _), rfl, rfl⟩
  obtain ⟨hc1, hc2⟩ := hbase
  rw [← hc1, ← hc2] at hnd ⊢
  have e1 := upds_perm hnd hperm
  rw [upds_append] at e1
  have hs := (hnd.perm hperm).split
  have hsubB := upds_sub hs.2
  have hbox : upds [(b2, c2), (b1, c1)] H b1 = some c1 := hs.2.get 1 rfl
  have hres : upds [(b2, c2), (b1, c1)] H b2 = some c2 := hs.2.get 0 rfl
  have hnd1 := hs.1
  have hH2 : H b2 = none := hs.2.out (b2, c2) (.head _)
  rw [show upds [(b4, Obj.cells #[.map (some r)] 60 (0, 0)), (r, .map #[] 0), (b3, .cells #[vi nb, .slice none 0 0] 27 (0, 0)), (b2, c2), (b1, c1)] H = _ from e1]
  generalize upds [(b2, c2), (b1, c1)] H = HB at hsubB hbox hres hnd1 ⊢
  clear e1 hs hnd hperm
  have hboxc : ∀ {L : List (Nat × Obj)}, ND L HB → upds L HB b1 = some (.cells #[vi br, uv, mv] 24 (0, 0)) := fun hn => by
    have h := upds_sub hn _ _ hbox
    rw [hc1] at h; exact h
  have hb1v : uv.oneCell' = true ∧ mv.oneCell' = true := by subst huv hmv; exact ⟨rfl, rfl⟩
  refine loop_inv (fun n vs I' H' => I' = I ∧ ∃ (b : Nat) (lv : Value) (mo : Obj) (Lr : List (Nat × Obj)) (ls : List (Int × Int)), nth vs 16 = vi b ∧ 1 ≤ b ∧ b ≤ nb ∧ n = nb - b ∧ ls.length ≤ b ∧ RL enP 61 lv ls Lr ∧ MSet PP 61 mo (ls.map lkv) ∧
      ND (gC b4 b3 r nb lv mo ++ Lr) HB ∧ H' = upds (gC b4 b3 r nb lv mo ++ Lr) HB ∧ treeGo us (nb - b) b ls = treeGo us (nb - 1) 1 []) (nb - 1)
    ⟨rfl, 1, _, _, [], [], rfl, by omega, by omega, rfl, by simp, .inl ⟨rfl, rfl, rfl⟩, MSet.nil _, hnd1, rfl, rfl⟩ ?_
  rintro n vs I _ k hk ⟨rfl, b, lv, mo, Lr, ls, hvb, hb1', hbn, hn, hlen, hrl, hms, hnd, rfl, htg⟩
  rw [hvb]
  refine p_gen (fld_27_0 _ _) ?_
  refine lo1 (v := vi nb) ty_3 hnd 1 rfl rfl ?_
  refine p_gen (run_lss _ _) ?_
  refine if_dec (fun h1 => ?_) (fun h1 => ?_)
  · refine jn (p_gen (fld_24_1 _ _) ?_)
    refine ld1 (v := uv) ty_22 (.inl (hboxc hnd)) rfl ?_
    refine c_call ((pick_spec b (by omega) I _ (hu.mono (Bk_sub (fun c o e => upds_sub hnd c o (hsubB c o e))))).mono ?_); rintro _ I _ - ⟨rfl, rfl, rfl⟩
    refine p_sub (by omega) (by omega) ?_
    refine c_call ((Within_spec _ 0 ((b : Int) - 1) (by omega) (by decide) (by omega) I _).mono ?_); rintro _ I _ - ⟨rfl, rfl, rfl⟩
    have hw2 := within_in (pickL us b) (lo := 0) (hi := (b : Int) - 1) (by omega)
    refine c_clos ((put_spec b (within (pickL us b) 0 ((b : Int) - 1)) ⟨by omega, by omega⟩ ⟨by omega, by omega⟩ (by omega) hrl hms I HB hnd).mono ?_)
    rintro _ I _ - ⟨L', rfl, hnd', rfl, lv', mo', Lr', rfl, hrl', hms'⟩
    have hpl := putL_len ls b (within (pickL us b) 0 ((b : Int) - 1))
    refine p_add (by omega) (by omega) ?_
    refine hk (n - 1) _ _ _ (by omega) ⟨rfl, b + 1, lv', mo', Lr', _, rfl, by omega, by omega, by omega, by omega, hrl', hms', hnd', rfl, ?_⟩
    rw [← htg, show nb - b = (nb - (b + 1)) + 1 from by omega]; rfl
  have htg' : ls = treeGo us (nb - 1) 1 [] := by rw [← htg, show nb - b = 0 from by omega]; rfl
  clear hk htg hvb hnd1
  refine loop_inv (fun n vs I' H' => I' = I ∧ ∃ (i : Nat) (lv : Value) (mo : Obj) (Lr : List (Nat × Obj)) (ls : List (Int × Int)), nth vs 32 = vi i ∧ i ≤ min ms.length 8 ∧ n = min ms.length 8 - i ∧ ls.length ≤ nb + i ∧ RL enP 61 lv ls Lr ∧ MSet PP 61 mo (ls.map lkv) ∧
      ND (gC b4 b3 r nb lv mo ++ Lr) HB ∧ H' = upds (gC b4 b3 r nb lv mo ++ Lr) HB ∧ moreGo nb ms (min ms.length 8 - i) i ls = graphL nb us ms) (min ms.length 8)
    ⟨rfl, 0, lv, mo, Lr, ls, rfl, by omega, rfl, by omega, hrl, hms, hnd, rfl, by rw [htg']; rfl⟩ ?_
  clear hrl hms hnd htg' hlen
  rintro n vs I _ k hk ⟨rfl, i, lv, mo, Lr, ls, hvi, hi8, hn, hlen, hrl, hms, hnd, rfl, hmg⟩
  have hmr := hmm.mono (Bk_sub (I := I) (fun c o e => upds_sub hnd c o (hsubB c o e)))
  rw [hvi]
  refine p_gen (fld_24_2 _ _) ?_
  refine ld1 (v := mv) ty_22 (.inl (hboxc hnd)) rfl ?_
  refine r_slen sl_22 hmr ?_
  refine p_gen (run_lss _ _) ?_
  have stop : i = min ms.length 8 → wRead PP (Instr.loadAt 27 (ptr b3 0)) I (upds (gC b4 b3 r nb lv mo ++ Lr) HB) fun t62 =>
      wAct PP (Instr.storeAt 27 (ptr b2 0) t62) I (upds (gC b4 b3 r nb lv mo ++ Lr) HB) fun _ I H3 =>
      wRead PP (Instr.loadAt 27 (ptr b2 0)) I H3 fun v => Dj I H3 → ∃ I2 H2, (∀ w, Sat I H3 w → Sat I2 H2 w) ∧ I.le I2 ∧ H2 = H ∧ ∃ (nb' : Nat) (lv' : Value), (nb : Int) = nb' ∧ v = gv nb' lv' ∧ Sl elP (Im I2) lv' (graphL nb' us ms) := by
    intro hi
    have hls : ls = graphL nb us ms := by rw [← hmg, hi, Nat.sub_self]; rfl
    obtain ⟨la, ln, lc, hlv⟩ := hrl.val
    refine loW ty_27 hnd 1 rfl rfl ?_
    have hb2' := upds_sub hnd _ _ hres
    rw [hc2] at hb2'
    refine stG ty_27.size hb2' rfl (by simp [Value.cells]) (by subst hlv; intro x hx; simp [Value.cells] at hx; rcases hx with rfl | rfl <;> rfl) ?_
    refine r_whole ty_27 (.inl (upd_same _ _ _)) rfl ?_
    intro hd
    have hsubL : Sub H (upd (upds (gC b4 b3 r nb lv mo ++ Lr) HB) b2 (.cells (setN (Value.agg #[vi 0, .slice none 0 0]).cells.toList 0 (Value.agg #[vi nb, lv]).cells.toList).toArray 27 (0, 0))) := fun c o e => by
      have hne : c ≠ b2 := fun x => by subst x; rw [hH2] at e; cases e
      rw [upd_ne _ _ hne]; exact upds_sub hnd _ _ (hsubB _ _ e)
    have hval : ∀ I2, Sl elP (Im I2) lv ls → ∃ (nb' : Nat) (lv' : Value), (nb : Int) = nb' ∧ Value.agg (setN (Value.agg #[vi 0, .slice none 0 0]).cells.toList 0 (Value.agg #[vi nb, lv]).cells.toList).toArray = gv nb' lv' ∧ Sl elP (Im I2) lv' (graphL nb' us ms) :=
      fun I2 h => ⟨nb, lv, rfl, rfl, by rw [← hls]; exact h⟩
    rcases hrl with ⟨rfl, rfl, rfl⟩ | ⟨g, cap, rest, rfl, rfl, h1, h2, h3⟩
    · exact ⟨I, H, fun w hw => hw.less hsubL, .refl _, rfl, hval I (Sl.nil _ _)⟩
    · have hg := hnd.mem (b := g) (List.mem_append_right _ (.head _))
      have hgB : HB g = none := hnd.out (g, _) (List.mem_append_right _ (.head _))
      have hgH : H g = none := by
        cases e : H g with
        | none => rfl
        | some o => rw [hsubB _ _ e] at hgB; cases hgB
      have hgb2 : g ≠ b2 := fun x => by subst x; rw [hres] at hgB; cases hgB
      have hg3 : (upd (upds (gC b4 b3 r nb (slv g 0 ls.length cap) mo ++ [(g, rowA enP 61 ls rest)]) HB) b2 (.cells (setN (Value.agg #[vi 0, .slice none 0 0]).cells.toList 0 (Value.agg #[vi nb, slv g 0 ls.length cap]).cells.toList).toArray 27 (0, 0))) g = some (rowA enP 61 ls rest) := by
        rw [upd_ne _ _ hgb2]; exact hg
      have hi0 : I.blk g = none := by
        cases e : I.blk g with
        | none => rfl
        | some o => have := hd g o e; rw [hg3] at this; cases this
      refine ⟨I.add g (rowA enP 61 ls rest), H, fun w hw => Sat.freeze (hw.less fun c o e => ?_) hgH, Imm.le_add hi0, rfl, hval _ (sl_row (o := 0) enP (show upd I.blk g _ g = _ from upd_same _ _ _) h1)⟩
      by_cases hc : c = g
      · subst hc; rw [upd_same] at e; cases e; exact hg3
      · rw [upd_ne _ _ hc] at e; exact hsubL c o e
  by_cases h1 : (i : Int) < ms.length
  case neg =>
    refine g_skip (decide_eq_false h1) (g_skip (decide_eq_false h1) (p_pick_f (decide_eq_false h1) (if_f ?_)))
    exact stop (by omega)
  refine g_do (decide_eq_true h1) (g_do (decide_eq_true h1) (p_gen (run_lss _ _) ?_))
  refine p_pick_t (decide_eq_true h1) ?_
  refine if_dec (fun h2 => ?_) (fun h2 => stop (by omega))
  have hx := nat_get (xs := ms) (i := i) (by omega)
  have rm : ∀ {K : Value → Prop}, K mv → wRead PP (Instr.loadAt 22 (ptr b1 (0 + 2))) I (join none' (upds (gC b4 b3 r nb lv mo ++ Lr) HB)) K := fun h => rd_own (ld1 (v := mv) ty_22 (.inl (hboxc hnd)) rfl h)
  have rn : ∀ {K : Value → Prop}, K (vi nb) → wRead PP (Instr.loadAt 3 (ptr b3 (0 + 0))) I (join none' (upds (gC b4 b3 r nb lv mo ++ Lr) HB)) K := fun h => rd_own (lo1 (v := vi nb) ty_3 hnd 1 rfl rfl h)
  refine jn (keep_none ?_)
  refine p_gen (fld_24_2 _ _) (p_gen (fld_27_0 _ _) (p_gen (fld_24_2 _ _) (p_gen (fld_27_0 _ _) ?_)))
  refine rm ?_
  refine p_iidx sl_22 ty_3 hmr (by omega) hx fun b o hat => ?_
  refine rd_own (r_at1 ty_3 hat ?_)
  refine rn (p_sub (by omega) (by omega) ?_)
  refine rm ?_
  refine p_iidx sl_22 ty_3 hmr (by omega) hx fun b o hat => ?_
  refine rd_own (r_at1 ty_3 hat ?_)
  refine p_gen (run_quo _ _ (by decide)) ?_
  refine rn (p_sub (by omega) (by omega) ?_)
  refine cn_quiet (fun H _ => Within_spec _ 0 ((nb : Int) - 1) (by omega) (by decide) (by omega) I H) ?_; rintro _ I - ⟨rfl, rfl⟩
  refine cn_quiet (fun H _ => Within_spec _ 0 ((nb : Int) - 1) (by omega) (by decide) (by omega) I H) ?_; rintro _ I - ⟨rfl, rfl⟩
  have hw2 := within_in (ms.getD i 0) (lo := 0) (hi := (nb : Int) - 1) (by omega)
  have hw3 := within_in (IntKind.i64.wrap ((ms.getD i 0).tdiv 8)) (lo := 0) (hi := (nb : Int) - 1) (by omega)
  refine cq_own hnd (fun H _ hn => put_spec _ _ ⟨by omega, by omega⟩ ⟨by omega, by omega⟩ (by omega) hrl hms I H hn) ?_
  rintro _ I L' - hnd' - ⟨rfl, lv', mo', Lr', rfl, hrl', hms'⟩
  have hpl := putL_len ls (within (ms.getD i 0) 0 ((nb : Int) - 1)) (within (IntKind.i64.wrap ((ms.getD i 0).tdiv 8)) 0 ((nb : Int) - 1))
  refine in_own ?_
  refine p_add (by omega) (by omega) ?_
  refine hk (n - 1) _ _ _ (by omega) ⟨rfl, i + 1, lv', mo', Lr', _, rfl, by omega, by omega, by omega, hrl', hms', hnd', rfl, ?_⟩
  rw [← hmg, show min ms.length 8 - i = (min ms.length 8 - (i + 1)) + 1 from by omega]; rfl
end Go.Proofs.Ytibgbapeblicjaa
