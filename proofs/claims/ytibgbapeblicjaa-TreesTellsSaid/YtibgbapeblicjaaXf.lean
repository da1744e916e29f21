/- Neighbours in a graph; does a row of parents span it? -/
import Derived.Test.YtibgbapeblicjaaXc
import Derived.Test.YtibgbapeblicjaaXe
set_option linter.unusedVariables false
namespace Go.Proofs.Ytibgbapeblicjaa
open Go
set_option maxRecDepth 100000
/- broadside/graph.Near -/
def S25 (a0 a1 : Value) (I : Imm) (H : PH) (R : KV) : Prop :=
  wMake PP (Instr.box 27 a0) I H fun t2 H =>
  wPure PP (Instr.fieldAt 27 t2 1) fun t8 =>
  wRead PP (Instr.loadAt 25 t8) I H fun t9 =>
  wRead PP (Builtin.len_ #[25] 3 #[t9]) I H fun t10 =>
  wJ (fun J =>
    wLoop (fun kc vs_1 I H =>
      wPure PP (semBin .lss 3 false false (nth vs_1 31) t10) fun t12 =>
      wIf t12 (
        wJ (fun J_1 =>
          wPure PP (Instr.indexAt 25 t9 (nth vs_1 31)) fun t13 =>
          wRead PP (Instr.loadAt 61 t13) I H fun t14 =>
          wMake PP (Instr.alloc 61 true (.tuple #[])) I H fun t7 H =>
          wAct PP (Instr.storeAt 61 t7 t14) I H fun _ I H =>
          wJ (fun J_2 =>
            wRead PP (Instr.loadAt 27 t2) I H fun t16 =>
            wRead PP (Instr.loadAt 61 t7) I H fun t17 =>
            wCall PP (vf 68) [t16, t17] I H fun t18 I H =>
            wPure PP (Op.unary .not t18) fun t19 =>
            wJ (fun J_3 =>
              wIf t19 (
                J_3 [(nth vs_1 9), (nth vs_1 10), (nth vs_1 11), (nth vs_1 12), (nth vs_1 13), (nth vs_1 14), (nth vs_1 15), (nth vs_1 16), (nth vs_1 17), (nth vs_1 18), (nth vs_1 19), (nth vs_1 20), (nth vs_1 21), (nth vs_1 22), (nth vs_1 23), (nth vs_1 24), (nth vs_1 25), (nth vs_1 26), (nth vs_1 27), (nth vs_1 28), (nth vs_1 29)] I H) (
                wPure PP (Instr.indexAt 61 t7 (vi 0)) fun t21 =>
                wRead PP (Instr.loadAt 3 t21) I H fun t22 =>
                wPure PP (semBin .eql 3 false false t22 a1) fun t24 =>
                wJ (fun J_4 =>
                  wIf t24 (
                    wPure PP (Instr.indexAt 61 t7 (vi 1)) fun t26 =>
                    wRead PP (Instr.loadAt 3 t26) I H fun t27 =>
                    wMake PP (Instr.buildSlice 22 1 #[(0, t27)]) I H fun t28 H =>
                    wAct PP (Builtin.append_ #[22, 22] 22 #[(nth vs_1 19), t28]) I H fun t29 I H =>
                    J_4 [(nth vs_1 19), t26, t27, t28, t29, t29, (nth vs_1 20), (nth vs_1 21), (nth vs_1 22), (nth vs_1 23), (nth vs_1 24), (nth vs_1 25), (nth vs_1 26), (nth vs_1 27), (nth vs_1 28), (nth vs_1 29)] I H) (
                    wPure PP (Instr.indexAt 61 t7 (vi 1)) fun t31 =>
                    wRead PP (Instr.loadAt 3 t31) I H fun t32 =>
                    wPure PP (semBin .eql 3 false false t32 a1) fun t34 =>
                    wJ (fun J_5 =>
                      wIf t34 (
                        wPure PP (Instr.indexAt 61 t7 (vi 0)) fun t36 =>
                        wRead PP (Instr.loadAt 3 t36) I H fun t37 =>
                        wMake PP (Instr.buildSlice 22 1 #[(0, t37)]) I H fun t38 H =>
                        wAct PP (Builtin.append_ #[22, 22] 22 #[(nth vs_1 19), t38]) I H fun t39 I H =>
                        J_5 [(nth vs_1 19), t36, t37, t38, t39, t39] I H) (
                        J_5 [(nth vs_1 25), (nth vs_1 26), (nth vs_1 27), (nth vs_1 28), (nth vs_1 29), (nth vs_1 19)] I H))
                    (fun vs_6 I H =>
                    J_4 [(nth vs_1 14), (nth vs_1 15), (nth vs_1 16), (nth vs_1 17), (nth vs_1 18), (nth vs_6 5), t31, t32, a1, t34, t34, (nth vs_6 0), (nth vs_6 1), (nth vs_6 2), (nth vs_6 3), (nth vs_6 4)] I H)))
                (fun vs_5 I H =>
                J_3 [t21, t22, a1, t24, t24, (nth vs_5 0), (nth vs_5 1), (nth vs_5 2), (nth vs_5 3), (nth vs_5 4), (nth vs_5 5), (nth vs_5 6), (nth vs_5 7), (nth vs_5 8), (nth vs_5 9), (nth vs_5 10), (nth vs_5 11), (nth vs_5 12), (nth vs_5 13), (nth vs_5 14), (nth vs_5 15)] I H)))
            (fun vs_4 I H =>
            J_2 [t16, t17, t18, t19, t19, (nth vs_4 0), (nth vs_4 1), (nth vs_4 2), (nth vs_4 3), (nth vs_4 4), (nth vs_4 5), (nth vs_4 6), (nth vs_4 7), (nth vs_4 8), (nth vs_4 9), (nth vs_4 10), (nth vs_4 11), (nth vs_4 12), (nth vs_4 13), (nth vs_4 14), (nth vs_4 15), (nth vs_4 16), (nth vs_4 17), (nth vs_4 18), (nth vs_4 19), (nth vs_4 20)] I H))
          (fun vs_3 I H =>
          J_1 [t13, t14, t7, (nth vs_3 0), (nth vs_3 1), (nth vs_3 2), (nth vs_3 3), (nth vs_3 4), (nth vs_3 5), (nth vs_3 6), (nth vs_3 7), (nth vs_3 8), (nth vs_3 9), (nth vs_3 10), (nth vs_3 11), (nth vs_3 12), (nth vs_3 13), (nth vs_3 14), (nth vs_3 15), (nth vs_3 16), (nth vs_3 17), (nth vs_3 18), (nth vs_3 19), (nth vs_3 20), (nth vs_3 21), (nth vs_3 22), (nth vs_3 23), (nth vs_3 24), (nth vs_3 25)] I H))
        (fun vs_2 I H =>
        wPure PP (semBin .add 3 false true (nth vs_1 31) (vi 1)) fun t40 =>
        kc [t12, (nth vs_2 0), (nth vs_2 1), (nth vs_2 2), (nth vs_2 3), (nth vs_2 4), (nth vs_2 5), (nth vs_2 6), (nth vs_2 7), (nth vs_2 8), (nth vs_2 9), (nth vs_2 10), (nth vs_2 11), (nth vs_2 12), (nth vs_2 13), (nth vs_2 14), (nth vs_2 15), (nth vs_2 16), (nth vs_2 17), (nth vs_2 18), (nth vs_2 19), (nth vs_2 20), (nth vs_2 21), (nth vs_2 22), (nth vs_2 23), (nth vs_2 24), (nth vs_2 25), (nth vs_2 26), (nth vs_2 27), (nth vs_2 28), t40, t40] I H)) (
        J [t12, (nth vs_1 1), (nth vs_1 2), (nth vs_1 3), (nth vs_1 4), (nth vs_1 5), (nth vs_1 6), (nth vs_1 7), (nth vs_1 8), (nth vs_1 9), (nth vs_1 10), (nth vs_1 11), (nth vs_1 12), (nth vs_1 13), (nth vs_1 14), (nth vs_1 15), (nth vs_1 16), (nth vs_1 17), (nth vs_1 18), (nth vs_1 19), (nth vs_1 20), (nth vs_1 21), (nth vs_1 22), (nth vs_1 23), (nth vs_1 24), (nth vs_1 25), (nth vs_1 26), (nth vs_1 27), (nth vs_1 28), (nth vs_1 29), (nth vs_1 30), (nth vs_1 31)] I H))
      [undef, undef, undef, undef, undef, undef, undef, undef, undef, undef, undef, undef, undef, undef, undef, undef, undef, undef, undef, (Value.slice none 0 0), undef, undef, undef, undef, undef, undef, undef, undef, undef, undef, undef, (vi 0)] I H)
  (fun vs I H =>
  wCall PP (vf 29) [(nth vs 19)] I H fun t42 I H =>
  wCall PP (vf 30) [(nth vs 19)] I H fun t44 I H =>
  R t44 I H)
theorem S25_eq (a0 a1 : Value) (I : Imm) (H : PH) (R : KV) : WF PP [] Try.f25 [a0, a1] I H R = S25 a0 a1 I H R := by kernel_rfl
theorem S25_ok {a0 a1 : Value} {I : Imm} {H : PH} {R : KV} (h : S25 a0 a1 I H R) : CallA PP 25 [a0, a1] I H R :=
  WF.ok (P := PP) (f := 25) (fn := Try.f25) (ord := []) (args := [a0, a1]) follows Try.func25 (by kernel_rfl) (by kernel_rfl) (by kernel_rfl) ((S25_eq a0 a1 I H R).mpr h)

/- broadside/graph.Linked -/
def S8 (a0 a1 a2 : Value) (I : Imm) (H : PH) (R : KV) : Prop :=
  wMake PP (Instr.box 27 a0) I H fun t3 H =>
  wRead PP (Instr.loadAt 27 t3) I H fun t7 =>
  wCall PP (vf 25) [t7, a1] I H fun t9 I H =>
  wCall PP (vf 24) [t9, a2] I H fun t11 I H =>
  R t11 I H
theorem S8_eq (a0 a1 a2 : Value) (I : Imm) (H : PH) (R : KV) : WF PP [] Try.f8 [a0, a1, a2] I H R = S8 a0 a1 a2 I H R := by kernel_rfl
theorem S8_ok {a0 a1 a2 : Value} {I : Imm} {H : PH} {R : KV} (h : S8 a0 a1 a2 I H R) : CallA PP 8 [a0, a1, a2] I H R :=
  WF.ok (P := PP) (f := 8) (fn := Try.f8) (ord := []) (args := [a0, a1, a2]) follows Try.func8 (by kernel_rfl) (by kernel_rfl) (by kernel_rfl) ((S8_eq a0 a1 a2 I H R).mpr h)

/- broadside/trees.Spans -/
def S13 (a0 a1 : Value) (I : Imm) (H : PH) (R : KV) : Prop :=
  wMake PP (Instr.box 27 a0) I H fun t2 H =>
  wRead PP (Builtin.len_ #[22] 3 #[a1]) I H fun t9 =>
  wJ (fun J =>
    wLoop (fun kc vs_1 I H =>
      wPure PP (semBin .lss 3 false false (nth vs_1 24) t9) fun t11 =>
      wIf t11 (
        wJ (fun J_1 =>
          wPure PP (Instr.indexAt 22 a1 (nth vs_1 24)) fun t13 =>
          wRead PP (Instr.loadAt 3 t13) I H fun t14 =>
          wJ (fun J_2 =>
            wPure PP (semBin .eql 3 false true t14 (vi (-1))) fun t17 =>
            wJ (fun J_3 =>
              wIf t17 (
                wPure PP (semBin .add 3 false true (nth vs_1 11) (vi 1)) fun t19 =>
                J_3 [(nth vs_1 11), t19, t19, (nth vs_1 12), (nth vs_1 13), (nth vs_1 14), (nth vs_1 15), (nth vs_1 16), (nth vs_1 17), (nth vs_1 18)] I H) (
                wRead PP (Instr.loadAt 27 t2) I H fun t21 =>
                wCall PP (vf 8) [t21, t14, (nth vs_1 24)] I H fun t24 I H =>
                wPure PP (Op.unary .not t24) fun t25 =>
                wIf t25 (
                  R (vb false) I H) (
                J_3 [(nth vs_1 9), (nth vs_1 10), (nth vs_1 11), t21, t14, (nth vs_1 24), t24, t25, t25, (nth vs_1 18)] I H)))
            (fun vs_4 I H =>
            J_2 [t14, t17, t17, (nth vs_4 0), (nth vs_4 1), (nth vs_4 2), (nth vs_4 3), (nth vs_4 4), (nth vs_4 5), (nth vs_4 6), (nth vs_4 7), (nth vs_4 8), (nth vs_4 9)] I H))
          (fun vs_3 I H =>
          wCall PP (vf 11) [a1, (nth vs_1 24)] I H fun t28 I H =>
          wPure PP (semBin .lss 3 false true t28 (vi 0)) fun t29 =>
          wIf t29 (
            R (vb false) I H) (
          J_1 [(nth vs_1 24), t13, t14, (nth vs_1 24), t14, (nth vs_3 0), (nth vs_3 1), (nth vs_3 2), (nth vs_3 3), (nth vs_3 4), (nth vs_3 5), (nth vs_3 6), (nth vs_3 7), (nth vs_3 8), (nth vs_3 9), (nth vs_3 10), (nth vs_3 11), (nth vs_3 12), a1, (nth vs_1 24), t28, t29] I H)))
        (fun vs_2 I H =>
        wPure PP (semBin .add 3 false true (nth vs_1 24) (vi 1)) fun t30 =>
        kc [t11, (nth vs_2 0), (nth vs_2 1), (nth vs_2 2), (nth vs_2 3), (nth vs_2 4), (nth vs_2 5), (nth vs_2 6), (nth vs_2 7), (nth vs_2 8), (nth vs_2 9), (nth vs_2 10), (nth vs_2 11), (nth vs_2 12), (nth vs_2 13), (nth vs_2 14), (nth vs_2 15), (nth vs_2 16), (nth vs_2 17), (nth vs_2 18), (nth vs_2 19), (nth vs_2 20), (nth vs_2 21), t30, t30] I H)) (
        J [t11, (nth vs_1 1), (nth vs_1 2), (nth vs_1 3), (nth vs_1 4), (nth vs_1 5), (nth vs_1 6), (nth vs_1 7), (nth vs_1 8), (nth vs_1 9), (nth vs_1 10), (nth vs_1 11), (nth vs_1 12), (nth vs_1 13), (nth vs_1 14), (nth vs_1 15), (nth vs_1 16), (nth vs_1 17), (nth vs_1 18), (nth vs_1 19), (nth vs_1 20), (nth vs_1 21), (nth vs_1 22), (nth vs_1 23), (nth vs_1 24)] I H))
      [undef, undef, undef, undef, undef, undef, undef, undef, undef, undef, undef, (vi 0), undef, undef, undef, undef, undef, undef, (vb false), undef, undef, undef, undef, undef, (vi 0)] I H)
  (fun vs I H =>
  wRead PP (Builtin.len_ #[22] 3 #[a1]) I H fun t32 =>
  wPure PP (Instr.fieldAt 27 t2 0) fun t33 =>
  wRead PP (Instr.loadAt 3 t33) I H fun t34 =>
  wPure PP (semBin .eql 3 false false t32 t34) fun t35 =>
  wGuard t35 true (fun k => k (nth vs 11) I H) (fun t37 I H =>
  wGuard t35 true (fun k => wPure PP (semBin .eql 3 false true t37 (vi 1)) fun v => k v I H) (fun t38 I H =>
  wPure PP (semPick t35 t38 (vb false)) fun t39 =>
  R t39 I H) I H) I H)
theorem S13_eq (a0 a1 : Value) (I : Imm) (H : PH) (R : KV) : WF PP [] Try.f13 [a0, a1] I H R = S13 a0 a1 I H R := by kernel_rfl
theorem S13_ok {a0 a1 : Value} {I : Imm} {H : PH} {R : KV} (h : S13 a0 a1 I H R) : CallA PP 13 [a0, a1] I H R :=
  WF.ok (P := PP) (f := 13) (fn := Try.f13) (ord := []) (args := [a0, a1]) follows Try.func13 (by kernel_rfl) (by kernel_rfl) (by kernel_rfl) ((S13_eq a0 a1 I H R).mpr h)


def nearOf (nb b : Int) (l : Int × Int) : List Int := if mayL nb l then (if l.1 = b then [l.2] else if l.2 = b then [l.1] else []) else []
def nearRaw (nb b : Int) (ls : List (Int × Int)) : List Int := ls.flatMap (nearOf nb b)
def nearL (nb : Int) (ls : List (Int × Int)) (b : Int) : List Int := compactL (isort (nearRaw nb b ls))
theorem nearRaw_snoc (nb b : Int) (ls : List (Int × Int)) (i : Nat) (x : Int × Int) (h : ls[i]? = some x) : nearRaw nb b (ls.take (i + 1)) = nearRaw nb b (ls.take i) ++ nearOf nb b x := by
  simp [nearRaw, List.take_add_one, h]
theorem nearRaw_take_le (nb b : Int) (ls : List (Int × Int)) (i : Nat) : (nearRaw nb b (ls.take i)).length ≤ (nearRaw nb b ls).length := by
  have : nearRaw nb b ls = nearRaw nb b (ls.take i) ++ nearRaw nb b (ls.drop i) := by
    simp only [nearRaw, ← List.flatMap_append, List.take_append_drop]
  rw [this]; simp
theorem isort_len (l : List Int) : (isort l).length = l.length := by
  have : ∀ (k i : Nat) (l : List Int), (isortN k i l).length = l.length := by
    intro k
    induction k with
    | zero => intro i l; rfl
    | succ k ih => intro i l; rw [isortN, ih, bub_len]
  exact this _ _ _

theorem Near_spec {nb : Int} {lv : Value} {ls : List (Int × Int)} (b : Int) (h12 : (nearRaw nb b ls).length ≤ 12) (hl : ls.length ≤ 1000000) (I : Imm) (H : PH) (hs : Sl elP (Bk I H) lv ls) :
    CallA PP 25 [gv nb lv, vi b] I H (fun v I' H' => H' = H ∧ Sl elInt (Im I') v (nearL nb ls b)) := by
  obtain ⟨la, lc, hlv⟩ := hs.len
  have h1c : lv.oneCell' = true := by subst hlv; rfl
  refine CallA.fin (S25_ok ?_)
  have hnd := ND.nil H
  subst hlv
  refine mk_box (L := []) hnd fun b2 hb2 hnd => ?_
  refine p_gen (fld_27_1 _ _) ?_
  refine lo1 ty_25 hnd 0 rfl rfl ?_
  have hs0 := hs.mono (Bk_sub (I := I) (upds_sub hnd))
  refine r_slen sl_25 hs0 ?_
  have hbox := hnd.get 0 rfl
  generalize hB : upds _ H = HB at hbox hs0 ⊢
  have hsubB : Sub H HB := by rw [← hB]; exact upds_sub hnd
  clear hB hnd hb2
  refine loop_inv (fun n vs I' H' => I' = I ∧ ∃ (i : Nat) (ov : Value) (H1 : PH), nth vs 31 = vi i ∧ nth vs 19 = ov ∧ i + n = ls.length ∧ Sub H1 H' ∧ Ro enInt 3 HB H1 ov (nearRaw nb b (ls.take i))) ls.length
    ⟨rfl, 0, _, HB, rfl, rfl, by omega, .refl _, Ro.nil _ _ _⟩ ?_
  rintro n vs I H2 k hk ⟨rfl, i, ov, H1, hi, hov, hn, hsub, hr⟩
  have hlen := nearRaw_take_le nb b ls i
  rw [hi]
  refine p_gen (run_lss _ _) ?_
  refine if_dec (fun h1 => ?_) (fun h1 => ?_)
  case refine_2 =>
    have : i = ls.length := by omega
    subst this
    rw [List.take_length] at hr
    show wCall _ _ [nth vs 19] _ _ _
    rw [hov]
    refine wCall.less hsub (c_call ((Sort_spec hr h12 I).mono ?_)); rintro _ I H3 - ⟨rfl, hr3, hlen3⟩
    show wCall _ _ [ov] _ _ _
    refine c_call ((Compact_spec hr3 (by omega) I).mono ?_); rintro v I H4 - ⟨rfl, hr4⟩
    intro hd
    obtain ⟨I2, h4, h5, h6⟩ := hr4.freeze hd
    exact ⟨I2, H, fun w hw => (h4 w hw).less hsubB, h5, rfl, h6⟩
  have hx : ls[(i : Int).toNat]? = some (ls[i]'(by omega)) := by rw [Int.toNat_natCast]; exact List.getElem?_eq_getElem (by omega)
  have hx' : ls[i]? = some (ls[i]'(by omega)) := List.getElem?_eq_getElem (by omega)
  generalize ls[i]'(by omega) = x at hx hx'
  have hsnoc := nearRaw_snoc nb b ls i x hx'
  have hlen' := nearRaw_take_le nb b ls (i + 1)
  have hs2 := hs0.mono (Bk_sub (I := I) (fun b o e => hsub b o (hr.sub b o e)))
  refine p_sidx sl_25 ty_61 rfl hs2 (by omega) hx fun b' o' hat => ?_
  obtain ⟨cs, hat, hcs⟩ := hat
  refine r_atN ty_61 hat (by rw [hcs]; rfl) ?_
  subst hcs
  refine mk_alloc (L := []) zero_61 (ND.nil H2) fun b7 hb7 hnd => ?_
  have hnd1 := hnd.less hsub
  refine wAct.less (upds_mono hsub _) ?_
  refine sto ty_61 hnd1 0 rfl rfl (by decide) (by rfl) fun hnd => ?_
  have hbox1 : ∀ L, ND L H1 → upds L H1 b2 = some _ := fun L hn => upds_sub hn _ _ (hr.sub _ _ hbox)
  refine jn (r_whole ty_27 (.inl (hbox1 _ hnd)) rfl ?_)
  refine loW ty_61 hnd 0 rfl rfl ?_
  refine c_call ((may_spec nb _ rfl x I _).mono ?_); rintro _ I _ - ⟨rfl, rfl, rfl⟩
  refine p_not ?_
  have done : ∀ vs' H' ov', nth vs' 31 = vi (i + 1) → nth vs' 19 = ov' → (∃ H1', Sub H1' H' ∧ Ro enInt 3 HB H1' ov' (nearRaw nb b (ls.take i) ++ nearOf nb b x)) → k vs' I H' := by
    rintro vs' H' ov' h3 h4 ⟨H1', h5, h6⟩
    exact hk (n - 1) _ _ _ (by omega) ⟨rfl, i + 1, ov', H1', h3, h4, by omega, h5, by rw [hsnoc]; exact h6⟩
  cases hm : mayL nb x
  · refine if_t ?_
    refine p_add (by omega) (by omega) ?_
    exact done _ _ ov rfl hov ⟨H1, upds_sub hnd, by simpa [nearOf, hm] using hr⟩
  refine if_f ?_
  refine p_gen (run_aidx arr_61 ty_3 (by decide) (by decide)) ?_
  refine lo1 (v := vi x.1) ty_3 hnd 0 rfl rfl ?_
  refine p_gen (run_eql _ _) ?_
  have hlen2 : (nearRaw nb b (ls.take i)).length ≤ 12 := by omega
  have app : ∀ (y : Int) (K : Value → Value → Imm → PH → Prop) {L : List (Nat × Obj)}, ND L H1 → nearOf nb b x = [y] → (∀ t v' H', Ro enInt 3 HB H' v' (nearRaw nb b (ls.take i) ++ nearOf nb b x) → K t v' I H') →
      wMake PP (Instr.buildSlice 22 1 #[(0, vi y)]) I (upds L H1) (fun t H => wAct PP (Builtin.append_ #[22, 22] 22 #[ov, t]) I H (K t)) := by
    intro y K L hndL hy hK
    refine mk_lit [vi y] sl_22 ty_3 zero_3 rfl rfl rfl rfl (by simp) (by simp) hndL fun b15 hb15 hnd => ?_
    have hsu : Sub (upds [(b15, .cells (flatC [vi y]).toArray 3)] H1) (upds ((b15, .cells (flatC [vi y]).toArray 3) :: L) H1) := by
      intro c o e
      simp only [upds] at e ⊢
      by_cases hc : c = b15
      · subst hc; rw [upd_same] at e ⊢; exact e
      · rw [upd_ne _ _ hc] at e ⊢; exact upds_sub hndL _ _ e
    refine wAct.less hsu ?_
    exact ap_en row_22 hr [y] 1 (hnd.out _ (.head _)) rfl rfl (by omega) (by decide) fun v' H' hr' => hK _ v' H' (by rw [hy]; exact hr')
  refine if_dec (fun h3 => ?_) (fun h3 => ?_)
  · refine p_gen (run_aidx arr_61 ty_3 (by decide) (by decide)) ?_
    refine lo1 (v := vi x.2) ty_3 hnd 0 rfl rfl ?_
    rw [hov]
    refine app x.2 _ hnd (by rw [nearOf, hm, if_pos rfl, if_pos h3]) fun _ v' H' hr' => ?_
    refine p_add (by omega) (by omega) ?_
    exact done _ _ v' rfl rfl ⟨H', .refl _, hr'⟩
  · refine p_gen (run_aidx arr_61 ty_3 (by decide) (by decide)) ?_
    refine lo1 (v := vi x.2) ty_3 hnd 0 rfl rfl ?_
    refine p_gen (run_eql _ _) ?_
    refine if_dec (fun h4 => ?_) (fun h4 => ?_)
    · refine p_gen (run_aidx arr_61 ty_3 (by decide) (by decide)) ?_
      refine lo1 (v := vi x.1) ty_3 hnd 0 rfl rfl ?_
      rw [hov]
      refine app x.1 _ hnd (by rw [nearOf, hm, if_pos rfl, if_neg h3, if_pos h4]) fun _ v' H' hr' => ?_
      refine p_add (by omega) (by omega) ?_
      exact done _ _ v' rfl rfl ⟨H', .refl _, hr'⟩
    · refine p_add (by omega) (by omega) ?_
      exact done _ _ ov rfl hov ⟨H1, upds_sub hnd, by simpa [nearOf, hm, h3, h4] using hr⟩
theorem nearL_len (nb b : Int) (ls : List (Int × Int)) : (nearL nb ls b).length ≤ (nearRaw nb b ls).length := by
  have := comp_len (isort (nearRaw nb b ls)) (isort (nearRaw nb b ls)).length
  rw [isort_len] at this
  rw [nearL, compactL, isort_len]; exact this
theorem Linked_spec {nb : Int} {lv : Value} {ls : List (Int × Int)} (a b : Int) (h12 : (nearRaw nb a ls).length ≤ 12) (hl : ls.length ≤ 1000000) (I : Imm) (H : PH) (hs : Sl elP (Bk I H) lv ls) :
    CallA PP 8 [gv nb lv, vi a, vi b] I H (fun v I' H' => H' = H ∧ v = .bool (decide (b ∈ nearL nb ls a))) := by
  obtain ⟨la, lc, hlv⟩ := hs.len
  have hlen := nearL_len nb a ls
  refine CallA.post (S8_ok ?_)
  have hnd := ND.nil H
  refine mk_box (L := []) hnd fun b2 hb2 hnd => ?_
  refine loW (L := [_]) ty_27 hnd 0 rfl (by subst hlv; rfl) ?_
  have hs0 := hs.mono (Bk_sub (I := I) (upds_sub hnd))
  have e : Value.agg (gv nb lv).cells = gv nb lv := by subst hlv; rfl
  rw [e]
  refine c_call ((Near_spec a h12 hl I _ hs0).mono ?_); rintro v I2 _ - ⟨rfl, h1⟩
  refine c_call ((Contains_spec b I2 _ (by omega) (h1.mono (Im_Bk _ _))).mono ?_); rintro v I2 _ - ⟨rfl, rfl, rfl⟩
  exact ⟨_, _, ends hnd, .refl _, rfl, rfl⟩

def spansGo (nb : Int) (ls : List (Int × Int)) (ps : List Int) : Nat → Nat → Nat → Bool
  | 0, _, roots => decide ((ps.length : Int) = nb) && decide (roots = 1)
  | f + 1, i, roots =>
    if ps.getD i 0 = -1 then (if (pathL ps i).length = 0 then false else spansGo nb ls ps f (i + 1) (roots + 1))
    else if (i : Int) ∈ nearL nb ls (ps.getD i 0) then (if (pathL ps i).length = 0 then false else spansGo nb ls ps f (i + 1) roots) else false
def spansL (nb : Int) (ls : List (Int × Int)) (ps : List Int) : Bool := spansGo nb ls ps ps.length 0 0
theorem Spans_spec {nb : Int} {lv pv : Value} {ls : List (Int × Int)} {ps : List Int} (h12 : ∀ a, (nearRaw nb a ls).length ≤ 12) (hl : ls.length ≤ 1000000) (hp : ps.length ≤ 1000000) (I : Imm) (H : PH) (hs : Sl elP (Bk I H) lv ls) (ht : Sl elInt (Bk I H) pv ps) :
    CallA PP 13 [gv nb lv, pv] I H (fun v I' H' => H' = H ∧ v = .bool (spansL nb ls ps)) := by
  obtain ⟨la, lc, hlv⟩ := hs.len
  refine CallA.post (S13_ok ?_)
  have hnd := ND.nil H
  refine mk_box (L := []) hnd fun b2 hb2 hnd => ?_
  have hs0 := hs.mono (Bk_sub (I := I) (upds_sub hnd))
  have ht0 := ht.mono (Bk_sub (I := I) (upds_sub hnd))
  refine r_slen sl_22 ht0 ?_
  have e : Value.agg (gv nb lv).cells = gv nb lv := by subst hlv; rfl
  have hends := ends (I := I) hnd
  have hsub := upds_sub hnd
  have hbox := hnd.get 0 rfl
  generalize hHB : upds _ H = HB at hs0 ht0 hends hsub hbox ⊢
  refine loop_inv (fun n vs I' H' => I.le I' ∧ H' = HB ∧ ∃ (i roots : Nat), nth vs 24 = vi i ∧ nth vs 11 = vi roots ∧ i + n = ps.length ∧ roots ≤ i ∧ spansGo nb ls ps n i roots = spansL nb ls ps) ps.length
    ⟨.refl _, rfl, 0, 0, rfl, rfl, by omega, by omega, rfl⟩ ?_
  rintro n vs I1 HB k hk ⟨hle, rfl, i, roots, hi, hro, hn, hri, hg⟩
  have out : ∀ (I2 : Imm) (b : Bool), b = spansL nb ls ps → ∃ I3 H3, (∀ w, Sat I2 HB w → Sat I3 H3 w) ∧ I2.le I3 ∧ H3 = H ∧ Value.bool b = .bool (spansL nb ls ps) :=
    fun I2 b hb => ⟨I2, H, fun w hw => hw.less hsub, .refl _, rfl, by rw [hb]⟩
  have hs1 := hs0.mono (Bk_le (H := HB) hle)
  have ht1 := ht0.mono (Bk_le (H := HB) hle)
  rw [hi]
  refine p_gen (run_lss _ _) ?_
  refine if_dec (fun h1 => ?_) (fun h1 => ?_)
  case refine_2 =>
    have : n = 0 := by omega
    subst this
    refine r_slen sl_22 ht1 ?_
    refine p_gen (fld_27_0 _ _) ?_
    refine ld1 (v := vi nb) ty_3 (.inl hbox) (by subst hlv; rfl) ?_
    refine p_gen (run_eql _ _) ?_
    show wGuard _ _ (fun k => k (nth vs 11) _ _) _ _ _
    rw [hro]
    by_cases h2 : (ps.length : Int) = nb
    · refine g_do (decide_eq_true h2) (g_do (decide_eq_true h2) (p_gen (run_eql _ _) ?_))
      refine p_pick_t (decide_eq_true h2) ?_
      refine out _ _ ?_
      rw [← hg, spansGo, decide_eq_true h2, Bool.true_and]
      exact decide_eq_decide.2 ⟨fun h => by omega, fun h => by omega⟩
    · refine g_skip (decide_eq_false h2) (g_skip (decide_eq_false h2) (p_pick_f (decide_eq_false h2) ?_))
      refine out _ _ ?_
      rw [← hg, spansGo, decide_eq_false h2, Bool.false_and]
  obtain ⟨m, rfl⟩ : ∃ m, n = m + 1 := ⟨n - 1, by omega⟩
  have hx := nat_get (xs := ps) (i := i) (by omega)
  refine p_iidx sl_22 ty_3 ht1 (by omega) hx fun b o hat => ?_
  refine r_at1 ty_3 hat ?_
  rw [spansGo] at hg
  refine jq (fun vs I' H' => I1.le I' ∧ H' = HB ∧ ∃ r : Nat, nth vs 5 = vi r ∧ r ≤ i + 1 ∧ (if (pathL ps i).length = 0 then false else spansGo nb ls ps m (i + 1) r) = spansL nb ls ps) (fun J hJ => ?_) ?_
  · refine p_gen (run_eql _ _) ?_
    refine if_dec (fun h3 => ?_) (fun h3 => ?_)
    · show wPure _ (semBin _ _ _ _ (nth vs 11) _) _
      rw [hro]
      refine p_add (by omega) (by omega) ?_
      rw [if_pos h3] at hg
      exact hJ _ _ _ ⟨.refl _, rfl, roots + 1, rfl, by omega, hg⟩
    · rw [if_neg h3] at hg
      refine r_whole ty_27 (.inl hbox) (by subst hlv; rfl) ?_
      rw [e]
      refine c_call ((Linked_spec (ps.getD i 0) i (h12 _) hl I1 _ hs1).mono ?_); rintro v I2 HB hle2 ⟨rfl, rfl⟩
      refine p_not ?_
      by_cases h4 : (i : Int) ∈ nearL nb ls (ps.getD i 0)
      · rw [if_pos h4] at hg
        refine if_0 (by rw [decide_eq_true h4]; rfl) ?_
        exact hJ _ _ _ ⟨hle2, rfl, roots, hro, by omega, hg⟩
      · rw [if_neg h4] at hg
        refine if_1 (by rw [decide_eq_false h4]; rfl) ?_
        exact out _ _ hg
  · rintro vs3 I2 HB ⟨hle2, rfl, r, hr, hri2, hg2⟩
    refine c_call ((Depth_spec hp i I2 _ (ht1.mono (Bk_le hle2))).mono ?_); rintro v I3 HB hle3 ⟨rfl, rfl⟩
    refine p_gen (run_lss _ _) ?_
    refine if_dec (fun h5 => ?_) (fun h5 => ?_)
    · rw [if_pos (by omega)] at hg2
      exact out _ _ hg2
    · rw [if_neg (by omega)] at hg2
      refine p_add (by omega) (by omega) ?_
      exact hk m _ _ _ (by omega) ⟨hle.trans (hle2.trans hle3), rfl, i + 1, r, rfl, hr, by omega, by omega, hg2⟩
end Go.Proofs.Ytibgbapeblicjaa
