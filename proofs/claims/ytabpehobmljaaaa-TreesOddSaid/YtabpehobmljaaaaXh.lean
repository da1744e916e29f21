/- Rings, two roots, unknown parents, parents that are not linked: the answer is yes. -/
import Derived.Test.YtabpehobmljaaaaXg
set_option linter.unusedVariables false
namespace Go.Proofs.Ytabpehobmljaaaa
open Go
set_option maxRecDepth 100000

def lsM (m : Nat) : List (Int × Int) := (List.range (m - 1)).map fun i : Nat => ((i : Int), (i : Int) + 1)
def psM (m : Nat) : List Int := -1 :: (List.range (m - 1)).map fun i : Nat => (i : Int)
theorem lsM_len (m : Nat) : (lsM m).length = m - 1 := by simp [lsM]
theorem psM_len (m : Nat) (h : 1 ≤ m) : (psM m).length = m := by simp [psM]; omega
theorem lsM_snoc (i : Nat) (h : 1 ≤ i) : lsM (i + 1) = lsM i ++ [((i : Int) - 1, (i : Int))] := by
  obtain ⟨j, rfl⟩ : ∃ j, i = j + 1 := ⟨i - 1, by omega⟩
  simp only [lsM, Nat.add_sub_cancel, List.range_succ, List.map_append, List.map_cons, List.map_nil]
  congr 3 <;> omega
theorem psM_snoc (i : Nat) (h : 1 ≤ i) : psM (i + 1) = psM i ++ [(i : Int) - 1] := by
  obtain ⟨j, rfl⟩ : ∃ j, i = j + 1 := ⟨i - 1, by omega⟩
  simp only [psM, Nat.add_sub_cancel, List.range_succ, List.map_append, List.map_cons, List.map_nil, List.cons_append]
  congr 3; omega
def oddOK (m x y : Nat) : Bool :=
  spansL m (lsM m) (psM m) && ((pathL (psM m) ((m : Int) - 1)).length == m)
  && !spansL m (lsM m) ((psM m).set x (y : Int)) && !spansL m (lsM m) ((psM m).set x (-1)) && !spansL m (lsM m) ((psM m).set x (-2)) && !spansL m (lsM m) ((psM m).set (m - 1) 0)
  && !spansL m (lsM m) ((psM m).take (m - 1))
  && ((pathL ((psM m).set x (y : Int)) y).length == 0) && ((pathL ((psM m).set x (y : Int)) x).length == 0) && ((pathL ((psM m).set x (-1)) x).length == 1)
  && ((pathL ((psM m).set x (-2)) ((m : Int) - 1)).length == 0) && ((pathL ((psM m).set (m - 1) 0) ((m : Int) - 1)).length == 2)
  && ((belowL ((psM m).set x (-2)) x).length == 0) && ((belowL ((psM m).set x (-1)) x).length == m - x)
def oddAll : Bool := (List.range 10).all fun m => (List.range m).all fun x => (List.range m).all fun y => if 3 ≤ m ∧ 1 ≤ x ∧ x + 1 ≤ y then oddOK m x y else true
theorem oddAll_true : oddAll = true := by kernel_rfl
theorem odd_ok {m x y : Nat} (h1 : 3 ≤ m) (h2 : m ≤ 9) (h3 : 1 ≤ x) (h4 : x + 1 ≤ y) (h5 : y ≤ m - 1) : oddOK m x y = true := by
  have h := oddAll_true
  simp only [oddAll, List.all_eq_true, List.mem_range] at h
  have := h m (by omega) x (by omega) y (by omega)
  rwa [if_pos ⟨h1, h3, h4⟩] at this
theorem Sl.im {α : Type} {e : El α} {I I' : Imm} {v : Value} {xs : List α} (h : Sl e (Im I) v xs) (hle : I.le I') (H : PH) : Sl e (Bk I' H) v xs := h.mono fun b o e => .inr (hle.blk b o e)
abbrev oddC (b8 b9 : Nat) (m : Int) (pv lv : Value) : List (Nat × Obj) := [(b9, .cells #[pv] 22 (0, 0)), (b8, .cells #[vi m, lv] 27 (0, 0))]
theorem TreesOdd_spec (n a b : Int) (I : Imm) (H : PH) : CallA PP 4 [vi n, vi a, vi b] I H (fun v I' H' => v = .bool true) := by
  refine CallA.fin (S4_ok ?_)
  refine c_call ((Within_spec n 3 9 (by decide) (by decide) (by decide) I H).mono ?_); rintro _ I H - ⟨rfl, rfl, rfl⟩
  have hm := within_in n (lo := 3) (hi := 9) (by decide)
  obtain ⟨m, hmm⟩ : ∃ m : Nat, within n 3 9 = m := ⟨(within n 3 9).toNat, by omega⟩
  rw [hmm] at hm ⊢
  clear hmm
  have hm3 : 3 ≤ m := by omega
  have hm9 : m ≤ 9 := by omega
  refine p_build #[vi m, .slice none 0 0] (by kernel_rfl) ?_
  have hnd := ND.nil H
  refine mk_alloc (L := []) zero_27 hnd fun b8 hb8 hnd => ?_
  refine stL ty_27 hnd 0 [(b8, .cells #[vi m, .slice none 0 0] 27 (0, 0))] rfl rfl (by decide) rfl rfl fun hnd => ?_
  refine mk_lit [vi (-1)] sl_22 ty_3 zero_3 rfl rfl rfl rfl (by simp) (by simp) hnd fun b22 hb22 hnd => ?_
  refine mk_alloc zero_22 hnd fun b9 hb9 hnd => ?_
  refine stL ty_22 hnd 0 [(b9, .cells #[slv b22 0 1 1] 22 (0, 0)), (b22, .cells (flatC [vi (-1)]).toArray 3 (0, 0)), (b8, .cells #[vi m, .slice none 0 0] 27 (0, 0))] rfl rfl (by decide) rfl rfl fun hnd => ?_
  have hperm : [(b9, Obj.cells #[slv b22 0 1 1] 22 (0, 0)), (b22, .cells (flatC [vi (-1)]).toArray 3 (0, 0)), (b8, .cells #[vi m, .slice none 0 0] 27 (0, 0))].Perm
      (oddC b8 b9 m (slv b22 0 1 1) (.slice none 0 0) ++ ([] ++ [(b22, .cells (flatC [vi (-1)]).toArray 3 (0, 0))])) := .cons _ (.swap _ _ _)
  refine loop_inv (fun n vs I' H' => I' = I ∧ ∃ (i : Nat) (pv lv : Value) (Lr Lp : List (Nat × Obj)), nth vs 19 = vi i ∧ 1 ≤ i ∧ i ≤ m ∧ n = m - i ∧ RL enP 38 lv (lsM i) Lr ∧ RL enInt 3 pv (psM i) Lp ∧
      ND (oddC b8 b9 m pv lv ++ (Lr ++ Lp)) H ∧ H' = upds (oddC b8 b9 m pv lv ++ (Lr ++ Lp)) H) (m - 1)
    ⟨rfl, 1, slv b22 0 1 1, .slice none 0 0, [], _, rfl, by omega, by omega, rfl, .inl ⟨rfl, rfl, rfl⟩, RL.lit enInt 3 [-1] rfl rfl (by decide), hnd.perm hperm, upds_perm hnd hperm⟩ ?_
  rintro n vs I _ k hk ⟨rfl, i, pv, lv, Lr, Lp, hi, hi1, him, hn, hrl, hrp, hnd, rfl⟩
  rw [hi]
  refine p_gen (run_lss _ _) ?_
  refine if_dec (fun h1 => ?_) (fun h1 => ?_)
  · refine jn (p_gen (fld_27_1 _ _) ?_)
    refine lo1 (v := lv) ty_25 hnd 1 rfl rfl ?_
    refine p_sub (by omega) (by omega) ?_
    refine p_build #[vi ((i : Int) - 1), vi i] (by kernel_rfl) ?_
    refine mk_lit [lkv ((i : Int) - 1, (i : Int))] sl_25 ty_38 zero_38 rfl rfl rfl rfl (by simp) (by simp) hnd fun b34 hb34 hnd => ?_
    refine ap_RL row_25 (L0 := oddC b8 b9 m pv lv ++ Lp) (fun Lr' => oddC b8 b9 m pv lv ++ (Lr' ++ Lp)) hnd hrl (List.perm_append_comm_assoc _ _ _) (fun _ => List.perm_append_comm_assoc _ _ _) [((i : Int) - 1, (i : Int))] 1 rfl rfl (by rw [lsM_len]; omega) (by decide) fun lv' Lr' hrl' hnd => ?_
    rw [← lsM_snoc i hi1] at hrl'
    obtain ⟨la, ln, lc, hlv'⟩ := hrl'.val
    refine p_gen (fld_27_1 _ _) ?_
    refine stL ty_25 hnd 1 (oddC b8 b9 m pv lv' ++ (Lr' ++ Lp)) rfl (by subst hlv'; rfl) (by simp) (by subst hlv'; rfl) (by subst hlv'; rfl) fun hnd => ?_
    refine lo1 (v := pv) ty_22 hnd 0 rfl rfl ?_
    refine p_sub (by omega) (by omega) ?_
    refine mk_lit [vi ((i : Int) - 1)] sl_22 ty_3 zero_3 rfl rfl rfl rfl (by simp) (by simp) hnd fun b40 hb40 hnd => ?_
    refine ap_RL row_22 (L0 := oddC b8 b9 m pv lv' ++ Lr') (fun Lp' => oddC b8 b9 m pv lv' ++ (Lr' ++ Lp')) hnd hrp (by rw [← List.append_assoc]; exact List.perm_append_comm) (fun _ => by rw [← List.append_assoc (oddC b8 b9 m pv lv')]; exact List.perm_append_comm) [(i : Int) - 1] 1 rfl rfl (by rw [psM_len i hi1]; omega) (by decide) fun pv' Lp' hrp' hnd => ?_
    rw [← psM_snoc i hi1] at hrp'
    obtain ⟨pa, pn, pc, hpv'⟩ := hrp'.val
    refine stL ty_22 hnd 0 (oddC b8 b9 m pv' lv' ++ (Lr' ++ Lp')) rfl (by subst hpv'; rfl) (by simp) (by subst hpv'; rfl) (by subst hpv'; rfl) fun hnd => ?_
    refine p_add (by omega) (by omega) ?_
    exact hk (n - 1) _ _ _ (by omega) ⟨rfl, i + 1, pv', lv', Lr', Lp', rfl, by omega, by omega, by omega, hrl', hrp', hnd, rfl⟩
  · have : i = m := by omega
    subst this
    clear hk
    have hsl := hrl.sl (I := I) hnd (fun p hp => List.mem_append_right _ (List.mem_append_left _ hp))
    have hsp := hrp.sl (I := I) hnd (fun p hp => List.mem_append_right _ (List.mem_append_right _ hp))
    have hb8 := hnd.get 1 rfl
    have hb9 := hnd.get 0 rfl
    have hsub := upds_sub hnd
    obtain ⟨la, ln, lc, hlv⟩ := hrl.val
    have hend : ∀ I2 (b : Bool), b = true → (Dj I2 (upds (oddC b8 b9 i pv lv ++ (Lr ++ Lp)) H) → ∃ I3 H3, (∀ w, Sat I2 (upds (oddC b8 b9 i pv lv ++ (Lr ++ Lp)) H) w → Sat I3 H3 w) ∧ I2.le I3 ∧ Value.bool b = .bool true) :=
      fun I2 b hb _ => ⟨I2, H, fun w hw => hw.less hsub, .refl _, by rw [hb]⟩
    clear hnd hrl hrp hperm
    generalize hHB : upds (oddC b8 b9 i pv lv ++ (Lr ++ Lp)) H = HB at hsl hsp hb8 hb9 hsub hend ⊢
    clear hHB
    have hlp := psM_len i hi1
    have hll := lsM_len i
    have h12 : ∀ a, (nearRaw i a (lsM i)).length ≤ 12 := fun a => Nat.le_trans (nearRaw_le _ _ _) (by rw [lsM_len]; omega)
    have rg : ∀ {I2 : Imm} {K : Value → Prop}, K (gv i lv) → wRead PP (Instr.loadAt 27 (ptr b8 0)) I2 HB K := fun h => r_whole ty_27 (.inl hb8) rfl h
    have rp : ∀ {I2 : Imm} {K : Value → Prop}, K pv → wRead PP (Instr.loadAt 22 (ptr b9 0)) I2 HB K := fun h => ld1 (v := pv) ty_22 (.inl hb9) rfl h
    refine rg (rp ?_)
    have h0 := odd_ok (m := i) (x := 1) (y := 2) hm3 hm9 (by omega) (by omega) (by omega)
    simp only [oddOK, Bool.and_eq_true, Bool.not_eq_true', beq_iff_eq] at h0
    obtain ⟨⟨⟨⟨⟨⟨⟨⟨⟨⟨⟨⟨⟨f1, f2⟩, -⟩, -⟩, -⟩, -⟩, -⟩, -⟩, -⟩, -⟩, -⟩, -⟩, -⟩, -⟩ := h0
    refine c_call ((Spans_spec h12 (by omega) (by omega) I _ hsl hsp).mono ?_); rintro _ I2 HB hle2 ⟨rfl, rfl⟩
    rw [f1]
    refine p_not ?_
    refine g_do rfl (rp ?_)
    refine g_do rfl (g_do rfl (p_sub (by omega) (by omega) ?_))
    refine g_do rfl ?_
    refine c_call ((Depth_spec (by omega) ((i : Int) - 1) I2 _ (hsp.mono (Bk_le hle2))).mono ?_); rintro _ I3 HB hle3 ⟨rfl, rfl⟩
    rw [f2]
    refine g_do rfl (g_do rfl (p_sub (by omega) (by omega) ?_))
    refine g_do rfl (p_gen (run_neq _ _) ?_)
    refine p_pick_f rfl ?_
    refine if_0 (by simp) ?_
    refine p_sub (by omega) (by omega) ?_
    refine c_call ((Within_spec a 1 ((i : Int) - 2) (by omega) (by decide) (by omega) I3 _).mono ?_); rintro _ I3 HB - ⟨rfl, rfl, rfl⟩
    have hx := within_in a (lo := 1) (hi := (i : Int) - 2) (by omega)
    obtain ⟨x, hxx⟩ : ∃ x : Nat, within a 1 ((i : Int) - 2) = x := ⟨(within a 1 ((i : Int) - 2)).toNat, by omega⟩
    rw [hxx] at hx ⊢
    clear hxx
    refine p_add (by omega) (by omega) ?_
    refine p_sub (by omega) (by omega) ?_
    refine c_call ((Within_spec b ((x : Int) + 1) ((i : Int) - 1) (by omega) (by omega) (by omega) I3 _).mono ?_); rintro _ I3 HB - ⟨rfl, rfl, rfl⟩
    have hy := within_in b (lo := (x : Int) + 1) (hi := (i : Int) - 1) (by omega)
    obtain ⟨y, hyy⟩ : ∃ y : Nat, within b ((x : Int) + 1) ((i : Int) - 1) = y := ⟨(within b ((x : Int) + 1) ((i : Int) - 1)).toNat, by omega⟩
    rw [hyy] at hy ⊢
    clear hyy
    have h0 := odd_ok (m := i) (x := x) (y := y) hm3 hm9 (by omega) (by omega) (by omega)
    simp only [oddOK, Bool.and_eq_true, Bool.not_eq_true', beq_iff_eq] at h0
    obtain ⟨⟨⟨⟨⟨⟨⟨⟨⟨⟨⟨⟨⟨-, -⟩, g1⟩, g2⟩, g3⟩, g4⟩, g5⟩, g6⟩, g7⟩, g8⟩, g9⟩, g10⟩, g11⟩, g12⟩ := h0
    have hsp3 := hsp.mono (Bk_le (H := HB) (hle2.trans hle3))
    have hsl3 := hsl.mono (Bk_le (H := HB) (hle2.trans hle3))
    clear hsp hsl
    refine c_clos ((turn_spec (b9 := b9) x y (by omega) (by omega) I3 HB hb9 hsp3).mono ?_); rintro ring I4 HB hle4 ⟨rfl, hring⟩
    refine c_clos ((turn_spec (b9 := b9) x (-1) (by omega) (by omega) I4 HB hb9 (hsp3.mono (Bk_le hle4))).mono ?_); rintro two I5 HB hle5 ⟨rfl, htwo⟩
    refine c_clos ((turn_spec (b9 := b9) x (-2) (by omega) (by omega) I5 HB hb9 (hsp3.mono (Bk_le (hle4.trans hle5)))).mono ?_); rintro none' I6 HB hle6 ⟨rfl, hnone⟩
    refine p_sub (by omega) (by omega) ?_
    rw [show (i : Int) - 1 = ((i - 1 : Nat) : Int) from by omega]
    refine c_clos ((turn_spec (b9 := b9) (i - 1) 0 (by omega) (by omega) I6 HB hb9 (hsp3.mono (Bk_le ((hle4.trans hle5).trans hle6)))).mono ?_); rintro far I7 HB hle7 ⟨rfl, hfar⟩
    have hsl7 := hsl3.mono (Bk_le (H := HB) (((hle4.trans hle5).trans hle6).trans hle7))
    have hsp7 := hsp3.mono (Bk_le (H := HB) (((hle4.trans hle5).trans hle6).trans hle7))
    replace hring := hring.mono (Im_le ((hle5.trans hle6).trans hle7))
    replace htwo := htwo.mono (Im_le (hle6.trans hle7))
    replace hnone := hnone.mono (Im_le hle7)
    clear hsl3 hsp3
    refine keep_all (rg ?_)
    refine cq_quiet (fun H hs => Spans_spec h12 (by omega) (by simp; omega) I7 H (hsl7.mono (Bk_sub hs)) (hring.im (.refl _) _)) ?_; rintro _ I8 hle8 rfl
    rw [g1]
    refine gD_do rfl (gD_do rfl (rg ?_))
    refine gD_do rfl (cq_quiet (fun H hs => Spans_spec h12 (by omega) (by simp; omega) I8 H (hsl7.mono (Bk_lt hle8 hs)) (htwo.im hle8 _)) ?_); rintro _ I9 hle9 rfl
    replace hle9 := hle8.trans hle9
    rw [g2]
    refine p_pick_f rfl (gD_do rfl (gD_do rfl (rg ?_)))
    refine gD_do rfl (cq_quiet (fun H hs => Spans_spec h12 (by omega) (by simp; omega) I9 H (hsl7.mono (Bk_lt hle9 hs)) (hnone.im hle9 _)) ?_); rintro _ Ia hlea rfl
    replace hlea := hle9.trans hlea
    rw [g3]
    refine p_pick_f rfl (gD_do rfl (gD_do rfl (rg ?_)))
    refine gD_do rfl (cq_quiet (fun H hs => Spans_spec h12 (by omega) (by simp; omega) Ia H (hsl7.mono (Bk_lt hlea hs)) (hfar.im hlea _)) ?_); rintro _ Ib hleb rfl
    replace hleb := hlea.trans hleb
    rw [g4]
    refine p_pick_f rfl (gD_do rfl (gD_do rfl (p_sub (by omega) (by omega) ?_)))
    rw [show (i : Int) - 1 = ((i - 1 : Nat) : Int) from by omega]
    refine gD_do rfl (rg ?_)
    refine gD_do rfl (rp ?_)
    refine gD_do rfl (p_slice_h sl_22 ty_3 (hsp7.mono (Bk_le (H := HB) hleb)) (by omega) fun pt hpt => ?_)
    refine gD_do rfl (cq_quiet (fun H hs => Spans_spec h12 (by omega) (by simp; omega) Ib H (hsl7.mono (Bk_lt hleb hs)) (hpt.mono (Bk_sub hs))) ?_); rintro _ Ic hlec rfl
    replace hlec := hleb.trans hlec
    rw [g5]
    refine p_pick_f rfl (in_none (if_f ?_))
    refine c_call ((Path_spec (by simp; omega) y Ic _ (hring.im hlec _)).mono ?_); rintro _ Id HB hled ⟨rfl, hp1⟩
    replace hled := hlec.trans hled
    refine r_slen sl_22 hp1 ?_
    rw [g6]
    refine p_gen (run_eql _ _) ?_
    refine g_do rfl (g_do rfl (g_do rfl ?_))
    refine c_call ((Depth_spec (by simp; omega) x Id _ (hring.im hled _)).mono ?_); rintro _ Ie HB hlee ⟨rfl, rfl⟩
    replace hlee := hled.trans hlee
    rw [g7]
    refine g_do rfl (p_gen (run_eql _ _) (p_pick_t rfl ?_))
    refine g_do rfl (g_do rfl (g_do rfl ?_))
    refine c_call ((Depth_spec (by simp; omega) x Ie _ (htwo.im hlee _)).mono ?_); rintro _ If HB hlef ⟨rfl, rfl⟩
    replace hlef := hlee.trans hlef
    rw [g8]
    refine g_do rfl (p_gen (run_eql _ _) (p_pick_t rfl ?_))
    refine g_do rfl (g_do rfl (g_do rfl (p_sub (by omega) (by omega) ?_)))
    refine g_do rfl ?_
    refine c_call ((Path_spec (by simp; omega) ((i : Int) - 1) If _ (hnone.im hlef _)).mono ?_); rintro _ Ig HB hleg ⟨rfl, hp2⟩
    replace hleg := hlef.trans hleg
    refine g_do rfl (r_slen sl_22 hp2 ?_)
    rw [g9]
    refine g_do rfl (p_gen (run_eql _ _) (p_pick_t rfl ?_))
    refine g_do rfl (g_do rfl (g_do rfl (p_sub (by omega) (by omega) ?_)))
    refine g_do rfl ?_
    refine c_call ((Depth_spec (by simp; omega) ((i : Int) - 1) Ig _ (hfar.im hleg _)).mono ?_); rintro _ Ih HB hleh ⟨rfl, rfl⟩
    replace hleh := hleg.trans hleh
    rw [g10]
    refine g_do rfl (p_gen (run_eql _ _) (p_pick_t rfl ?_))
    refine g_do rfl (g_do rfl (g_do rfl ?_))
    refine c_call ((Below_spec (by simp; omega) x Ih _ (hnone.im hleh _)).mono ?_); rintro _ Ii HB hlei ⟨rfl, hp3⟩
    replace hlei := hleh.trans hlei
    refine g_do rfl (r_slen sl_22 hp3 ?_)
    rw [g11]
    refine g_do rfl (p_gen (run_eql _ _) (p_pick_t rfl ?_))
    refine g_do rfl (g_do rfl (g_do rfl ?_))
    refine c_call ((Below_spec (by simp; omega) x Ii _ (htwo.im hlei _)).mono ?_); rintro _ Ij HB hlej ⟨rfl, hp4⟩
    replace hlej := hlei.trans hlej
    refine g_do rfl (r_slen sl_22 hp4 ?_)
    rw [g12]
    refine g_do rfl (g_do rfl (g_do rfl (p_sub (by omega) (by omega) ?_)))
    refine g_do rfl (p_gen (run_eql _ _) (p_pick_t rfl ?_))
    rw [decide_eq_true (show (((i - x : Nat) : Nat) : Int) = (i : Int) - (x : Int) from by omega)]
    refine g_do rfl ?_
    refine c_call ((TreesRuns_spec Ij _).mono ?_); rintro _ Ik HB hlek ⟨rfl, rfl⟩
    refine p_pick_t rfl ?_
    exact hend _ _ rfl
end Go.Proofs.Ytabpehobmljaaaa
