/- Drawn regions over the call's own blocks: quiet calls, calls and acts that change own blocks. -/
import Derived.Test.YtibgbapeblicjaaWl
set_option linter.unusedVariables false
namespace Go.Proofs.Ytibgbapeblicjaa
open Go
variable {P : Program}

theorem after_call {f : FuncId} {args : List Value} {w : World} {A B : Ending → World → Prop} (h : UponCall P ((callFunc f args.toArray).run P w) A) (key : ∀ e w', A e w' → B e w') : UponCall P ((callFunc f args.toArray).run P w) B := by
  revert h
  unfold UponCall
  cases (callFunc f args.toArray).run P w with
  | ok n w' =>
    cases n <;> first
      | exact id
      | exact fun h => key (.returned _) _ h
      | exact fun h => Calls.mono h key
  | halt x w' => exact id
theorem join_mono {Hs Hs' Ha : PH} (h : Sub Hs Hs') : Sub (join Hs Ha) (join Hs' Ha) := fun b o e => by
  simp only [join] at e ⊢
  cases ha : Ha b with
  | some x => rw [ha] at e; exact e
  | none => rw [ha] at e; simp at e ⊢; exact h b o e
theorem join_none_iff {Hs Ha : PH} {b : Nat} : join Hs Ha b = none ↔ Hs b = none ∧ Ha b = none := by
  simp only [join]
  cases Ha b <;> cases Hs b <;> simp
theorem cn_quiet {f : FuncId} {args : List Value} {I : Imm} {Hs Ha : PH} {K : Value → Imm → Prop} {R : Value → Imm → Prop} (h : ∀ H, Sub (join Hs Ha) H → CallA P f args I H (fun v I' H' => H' = H ∧ R v I'))
    (hk : ∀ v I', I.le I' → R v I' → K v I') : wCallN P (vf f) args I Hs Ha K := by
  refine ⟨f, #[], #[], rfl, R, fun Hs' w hsub hd hw => ?_, fun v I' hl _ hr => hk v I' hl hr⟩
  have h1 := h (join Hs' Ha) (join_mono hsub) w hw
  simp only [List.append_nil, List.nil_append]
  refine after_call h1 fun e w' he => ?_
  cases e with
  | returned v =>
    obtain ⟨I', H', hl, h2, rfl, h4⟩ := he
    exact ⟨I', Ha, hl, ⟨fun b o e => join_none_iff.1 (h2.dis b o e), hd.2⟩, h2, rfl, h4⟩
  | panicked c => exact he
  | outgrown => exact he
/-- The own blocks over a base that a region's steady part joins. -/
theorem join_upds {L : List (Nat × Obj)} {Hs H0 : PH} (hnd : ND L H0) (hd : ∀ b o, Hs b = some o → upds L H0 b = none) : join Hs (upds L H0) = upds L (join Hs H0) ∧ ND L (join Hs H0) := by
  have hout : ∀ p ∈ L, Hs p.1 = none := fun p hp => by
    cases e : Hs p.1 with
    | none => rfl
    | some o =>
      have h1 := hd _ _ e
      rw [hnd.mem (b := p.1) (o := p.2) hp] at h1
      cases h1
  have hnd' : ND L (join Hs H0) := ⟨hnd.nd, fun p hp => join_none_iff.2 ⟨hout p hp, hnd.out p hp⟩⟩
  refine ⟨?_, hnd'⟩
  funext b
  by_cases hb : b ∈ L.map (·.1)
  · obtain ⟨p, hm, rfl⟩ := List.mem_map.1 hb
    rw [hnd'.mem (b := p.1) (o := p.2) hm]
    simp only [join]
    rw [hnd.mem (b := p.1) (o := p.2) hm]; rfl
  · rw [upds_out hb]
    simp only [join]
    rw [upds_out hb]
theorem own_back {L L' : List (Nat × Obj)} {Hs H0 : PH} {I' : Imm} (hnd : ND L H0) (hd : ∀ b o, Hs b = some o → upds L H0 b = none) (hnd' : ND L' (join Hs H0)) (hdis : ∀ b o, I'.blk b = some o → upds L' (join Hs H0) b = none) :
    ND L' H0 ∧ Disj I' Hs (upds L' H0) ∧ join Hs (upds L' H0) = upds L' (join Hs H0) := by
  have h1 : ND L' H0 := ⟨hnd'.nd, fun p hp => (join_none_iff.1 (hnd'.out p hp)).2⟩
  have h2 : ∀ b o, Hs b = some o → upds L' H0 b = none := fun b o e => by
    have hb : b ∉ L'.map (·.1) := fun hm => by
      obtain ⟨p, hm2, rfl⟩ := List.mem_map.1 hm
      have := (join_none_iff.1 (hnd'.out p hm2)).1; rw [e] at this; cases this
    rw [upds_out hb]
    have := hd b o e
    cases e0 : H0 b with
    | none => rfl
    | some x => rw [upds_sub hnd b x e0] at this; cases this
  have h3 := (join_upds h1 h2).1
  refine ⟨h1, ⟨fun b o e => ?_, h2⟩, h3⟩
  have := hdis b o e
  rw [← h3] at this
  exact join_none_iff.1 this
theorem cq_own {f : FuncId} {cap : Array Value} {args : List Value} {I : Imm} {L : List (Nat × Obj)} {Hs H0 : PH} {K : Value → Imm → PH → Prop} {R : Value → Imm → List (Nat × Obj) → Prop} (hnd : ND L H0)
    (h : ∀ H, Sub Hs H → ND L H → CallA P f (args ++ cap.toList) I (upds L H) (fun v I' H' => ∃ L', H' = upds L' H ∧ ND L' H ∧ R v I' L'))
    (hk : ∀ v I' L', I.le I' → ND L' H0 → Disj I' Hs (upds L' H0) → R v I' L' → K v I' (upds L' H0)) : wCallQ P (.func (.func f) #[] cap) args I Hs (upds L H0) K := by
  refine ⟨f, #[], cap, rfl, fun v I' Ha' => ∃ L', Ha' = upds L' H0 ∧ ND L' H0 ∧ R v I' L', fun Hs' w hsub hd hw => ?_, fun v I' Ha' hl hdd ⟨L', e, h1, h2⟩ => by subst e; exact hk v I' L' hl h1 hdd h2⟩
  obtain ⟨e1, hnd1⟩ := join_upds hnd hd.2
  rw [e1] at hw
  have hs : Sub Hs (join Hs' H0) := fun b o e => by
    have h1 := hsub b o e
    have h2 := hd.2 b o h1
    have h3 : H0 b = none := by
      cases e0 : H0 b with
      | none => rfl
      | some x => rw [upds_sub hnd b x e0] at h2; cases h2
    simp [join, h3, h1]
  have h1 := h (join Hs' H0) hs hnd1 w hw
  simp only [List.nil_append]
  refine after_call h1 fun e w' he => ?_
  cases e with
  | returned v =>
    obtain ⟨I', H', hl, h2, L', rfl, h4, h5⟩ := he
    obtain ⟨g1, g2, g3⟩ := own_back hnd hd.2 h4 h2.dis
    exact ⟨I', upds L' H0, hl, g2, by rw [g3]; exact h2, L', rfl, g1, h5⟩
  | panicked c => exact he
  | outgrown => exact he
theorem aq_own {α : Type} {s : Sem α} {I : Imm} {L : List (Nat × Obj)} {Hs H0 : PH} {K : α → Imm → PH → Prop} {R : α → Imm → List (Nat × Obj) → Prop} (hnd : ND L H0)
    (h : ∀ H, Sub Hs H → ND L H → wAct P s I (upds L H) (fun v I' H' => ∃ L', H' = upds L' H ∧ ND L' H ∧ R v I' L'))
    (hk : ∀ v I' L', I.le I' → ND L' H0 → Disj I' Hs (upds L' H0) → R v I' L' → K v I' (upds L' H0)) : wActQ P s I Hs (upds L H0) K := by
  refine ⟨fun v I' Ha' => ∃ L', Ha' = upds L' H0 ∧ ND L' H0 ∧ R v I' L', fun Hs' w hsub hd hw => ?_, fun v I' Ha' hl hdd ⟨L', e, h1, h2⟩ => by subst e; exact hk v I' L' hl h1 hdd h2⟩
  obtain ⟨e1, hnd1⟩ := join_upds hnd hd.2
  rw [e1] at hw
  have hs : Sub Hs (join Hs' H0) := fun b o e => by
    have h1 := hsub b o e
    have h2 := hd.2 b o h1
    have h3 : H0 b = none := by
      cases e0 : H0 b with
      | none => rfl
      | some x => rw [upds_sub hnd b x e0] at h2; cases h2
    simp [join, h3, h1]
  obtain ⟨v, w', I', H', h1, hl, h2, L', rfl, h4, h5⟩ := h (join Hs' H0) hs hnd1 w hw
  obtain ⟨g1, g2, g3⟩ := own_back hnd hd.2 h4 h2.dis
  exact ⟨v, w', I', upds L' H0, h1, hl, g2, by rw [g3]; exact h2, L', rfl, g1, h5⟩
theorem in_upds {I : Imm} {L : List (Nat × Obj)} {Hs H0 : PH} {F : Imm → PH → Prop} (hnd : ND L H0) (hd : Disj I Hs (upds L H0)) (h : ND L (join Hs H0) → F I (upds L (join Hs H0))) : wIn I (join Hs (upds L H0)) F := by
  obtain ⟨e1, hnd1⟩ := join_upds hnd hd.2
  unfold wIn
  rw [e1]; exact h hnd1
theorem sub_join (Hs H0 : PH) : Sub H0 (join Hs H0) := fun b o e => by simp [join, e]
theorem apQ_RL {α : Type} {e : En α} {T E bytes ty : Nat} {i : TypeInfo} {z : Value} (hT : RowTy P T E e.n bytes i z) {v lv : Value} {xs ys : List α} {L Lr L0 : List (Nat × Obj)} {Hs H0 : PH} (L1 : List (Nat × Obj) → List (Nat × Obj)) {I : Imm} {K : Value → Imm → PH → Prop}
    (hnd : ND L H0) (hr : RL e E v xs Lr) (hp : L.Perm (Lr ++ L0)) (hq : ∀ Lr' : List (Nat × Obj), (Lr' ++ L0).Perm (L1 Lr')) (hs : ∀ H, Sub Hs H → Sl e.el (Bk I H) lv ys) (h63 : xs.length + ys.length ≤ 1099511627776) (hby : bytes ≤ 128)
    (h : ∀ v' Lr', RL e E v' (xs ++ ys) Lr' → ND (L1 Lr') H0 → Disj I Hs (upds (L1 Lr') H0) → K v' I (upds (L1 Lr') H0)) : wActQ P (Builtin.append_ #[T, T] ty #[v, lv]) I Hs (upds L H0) K := by
  refine aq_own (R := fun v' I' L' => I' = I ∧ ∃ Lr', L' = L1 Lr' ∧ RL e E v' (xs ++ ys) Lr') hnd (fun H hsub hn => ?_) fun v' I' L' hle h1 h2 ⟨h3, Lr', h4, h5⟩ => by subst h3 h4; exact h v' Lr' h5 h1 h2
  have hn2 := hn.perm hp
  rw [upds_perm hn hp]
  have hs2 : Sl e.el (Bk I (upds (Lr ++ L0) H)) lv ys := (hs H hsub).mono (Bk_sub (fun c o e => upds_sub hn2 c o e))
  refine ap_sl hT (hr.ro hn2) hs2 h63 hby fun v' H' hr' => ?_
  have hnd0 : ND L0 H := ⟨by have := hn2.nd; rw [List.map_append, List.nodup_append] at this; exact this.2.1, fun p hm => hn2.out p (List.mem_append_right _ hm)⟩
  obtain ⟨Lr', h1, h2, rfl⟩ := hr'.rl hnd0
  exact ⟨L1 Lr', upds_perm h2 (hq Lr'), h2.perm (hq Lr'), rfl, Lr', rfl, h1⟩
theorem stQL {T n : Nat} {agg : Bool} (ht : TyI P T agg n) {I : Imm} {L : List (Nat × Obj)} {Hs H : PH} (hnd : ND L H) (k : Nat) (L' : List (Nat × Obj)) {K : Unit → Imm → PH → Prop} {b o : Nat} {arr : Array Value} {E : TypeId} {v : Value}
    (hk : L[k]? = some (b, .cells arr E (0, 0))) (hn : v.cells.size = n) (hfit : o + n ≤ arr.size) (h1 : v.cells.toList.all (·.oneCell') = true)
    (hL : L.set k (b, .cells (setN arr.toList o v.cells.toList).toArray E (0, 0)) = L') (h : ND L' H → Disj I Hs (upds L' H) → K () I (upds L' H)) : wActQ P (Instr.storeAt T (ptr b o) v) I Hs (upds L H) K :=
  aq_own (R := fun _ I' L'' => I' = I ∧ L'' = L') hnd (fun H' _ hn' => stL ht hn' k L' hk hn hfit h1 hL fun hn2 => ⟨L', rfl, hn2, rfl, rfl⟩) fun _ I' L'' _ h2 h3 ⟨h4, h5⟩ => by subst h4 h5; exact h h2 h3
end Go.Proofs.Ytibgbapeblicjaa
