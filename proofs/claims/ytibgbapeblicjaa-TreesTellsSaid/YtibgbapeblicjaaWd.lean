/- The calculus over whole functions: what is to be shown of a function's code, and that the model's call follows from it. -/
import Derived.Test.YtibgbapeblicjaaWc
import Derived.LoopN
set_option linter.unusedVariables false
namespace Go.Proofs.Ytibgbapeblicjaa
open Go
variable {P : Program}

def ins (l : List Nat) (x : Nat) : List Nat := cond (hasN x l) l (l ++ [x])
def dsts : List Oper → List Nat → List Nat
  | [], acc => acc
  | o :: r, acc => dsts r (match o.dst with | some d => ins acc d | none => acc)
def asg : Code → List Nat → List Nat
  | .region _ ops _, acc => dsts ops.toList acc
  | .seq a b, acc => asg b (asg a acc)
  | .cond _ a b, acc => asg b (asg a acc)
  | .block _ c, acc => asg c acc
  | .loop c, acc => asg c acc
  | _, acc => acc
def falls : Code → Bool
  | .seq a b => cond (falls a) (falls b) false
  | .cond _ a b => cond (falls a) true (falls b)
  | .loop _ | .exit _ | .ret | .goto _ => false
  | _ => true
def posN : List Nat → Nat → Nat → Option Nat
  | [], _, _ => none
  | s :: l, i, k => cond (Nat.beq i s) (some k) (posN l i (k + 1))
def nth (vs : List Value) (k : Nat) : Value := vs.getD k undef
def setL (env : Env) (S : List Nat) (vs : List Value) : Env := fun i =>
  match posN S i 0 with
  | some k => nth vs k
  | none => env i

def wIf (c : Value) (A B : Prop) : Prop := ∃ b, c = .bool b ∧ (b = true → A) ∧ (b = false → B)
abbrev KL := List Value → Imm → PH → Prop
def wJ (F : KL → Prop) (J : KL) : Prop := F J
def iterW (F : KL → KL) : Nat → KL
  | 0 => fun _ _ _ => False
  | n + 1 => F (iterW F n)
def wLoop (F : KL → KL) (vs : List Value) (I : Imm) (H : PH) : Prop := ∃ n, iterW F n vs I H

def W (P : Program) (ord : List (List Nat)) : Code → KE → (Exit → KE) → KE
  | .skip, kn, _ => kn
  | .region id ops draw, kn, _ => fun env I H =>
    cond draw (wKeep H fun Hs Ha => WD P ops kn (ord.getD id []) env I Hs Ha) (Wops P ops ops.toList kn env I H)
  | .seq a b, kn, kx => W P ord a (W P ord b kn kx) kx
  | .cond c a b, kn, kx => fun env I H =>
    cond (falls a)
      (cond (falls b)
        (wJ (fun J => wIf (ev env c) (W P ord a (fun env' I H => J ((asg b (asg a [])).map env') I H) kx env I H) (W P ord b (fun env' I H => J ((asg b (asg a [])).map env') I H) kx env I H))
          (fun vs I H => kn (setL env (asg b (asg a [])) vs) I H))
        (wIf (ev env c) (W P ord a kn kx env I H) (W P ord b (fun _ _ _ => False) kx env I H)))
      (wIf (ev env c) (W P ord a (fun _ _ _ => False) kx env I H) (W P ord b kn kx env I H))
  | .block id c, kn, kx => fun env I H =>
    wJ (fun J => W P ord c (fun env' I H => J ((asg c []).map env') I H)
        (fun e env' I H => match e with | .exit id' => cond (Nat.beq id' id) (J ((asg c []).map env') I H) (kx (.exit id') env' I H) | e => kx e env' I H) env I H)
      (fun vs I H => kn (setL env (asg c []) vs) I H)
  | .loop c, _, kx => fun env I H =>
    wLoop (fun kc vs I H => W P ord c (fun env' I H => kc ((asg c []).map env') I H) kx (setL env (asg c []) vs) I H) ((asg c []).map env) I H
  | .ret, _, kx => fun env I H => kx .ret env I H
  | .exit id, _, kx => fun env I H => kx (.exit id) env I H
  | _, _, _ => fun _ _ _ => False

def fitsC (n : Nat) : Code → Bool
  | .region _ ops _ => ops.toList.all fun o => match o.dst with | some d => Nat.blt d n | none => true
  | .seq a b | .cond _ a b => fitsC n a && fitsC n b
  | .block _ c | .loop c => fitsC n c
  | _ => true
def okDraws (ord : List (List Nat)) : Code → Bool
  | .region id ops draw => cond draw (okOrd ops (ord.getD id [])) true
  | .seq a b | .cond _ a b => okDraws ord a && okDraws ord b
  | .block _ c | .loop c => okDraws ord c
  | _ => true

/-! ### Soundness -/
theorem mem_ins {l : List Nat} {x i : Nat} : i ∈ ins l x ↔ i ∈ l ∨ i = x := by
  unfold ins
  cases h : hasN x l with
  | false => simp
  | true => rw [hasN_mem] at h; simp only [cond_true]; exact ⟨.inl, fun h' => h'.elim id fun e => e ▸ h⟩
theorem mem_dsts {i : Nat} : ∀ {l : List Oper} {acc : List Nat}, i ∈ dsts l acc ↔ i ∈ acc ∨ ∃ o ∈ l, o.dst = some i
  | [], acc => by simp [dsts]
  | o :: r, acc => by
    simp only [dsts, mem_dsts, List.mem_cons]
    cases ho : o.dst with
    | none => simp [ho]
    | some d =>
      simp only [mem_ins]
      constructor
      · rintro ((h | rfl) | ⟨o', h, e⟩)
        · exact .inl h
        · exact .inr ⟨o, .inl rfl, ho⟩
        · exact .inr ⟨o', .inr h, e⟩
      · rintro (h | ⟨o', rfl | h, e⟩)
        · exact .inl (.inl h)
        · rw [ho] at e; cases e; exact .inl (.inr rfl)
        · exact .inr ⟨o', h, e⟩
def Asg : Code → Nat → Prop
  | .region _ ops _, i => DstIn ops i
  | .seq a b, i => Asg a i ∨ Asg b i
  | .cond _ a b, i => Asg a i ∨ Asg b i
  | .block _ c, i => Asg c i
  | .loop c, i => Asg c i
  | _, _ => False
theorem mem_asg {i : Nat} : ∀ {c : Code} {acc : List Nat}, i ∈ asg c acc ↔ i ∈ acc ∨ Asg c i := by
  intro c
  induction c <;> intro acc
  case region id ops d => simp only [asg, mem_dsts, Asg, DstIn]
  case seq a b iha ihb => simp only [asg, iha, ihb, Asg, or_assoc]
  case cond c a b iha ihb => simp only [asg, iha, ihb, Asg, or_assoc]
  case block id c ih => simp only [asg, ih, Asg]
  case loop c ih => simp only [asg, ih, Asg]
  all_goals simp [asg, Asg]

theorem posN_spec : ∀ (S : List Nat) (i k : Nat), (∃ m, posN S i k = some (k + m) ∧ S[m]? = some i) ∨ (posN S i k = none ∧ i ∉ S)
  | [], i, k => .inr ⟨rfl, by simp⟩
  | s :: S, i, k => by
    simp only [posN]
    by_cases h : i = s
    · subst h; exact .inl ⟨0, by simp, rfl⟩
    · have hb : Nat.beq i s = false := by rw [← Bool.not_eq_true, Nat.beq_eq]; exact h
      rw [hb, cond_false]
      rcases posN_spec S i (k + 1) with ⟨m, h1, h2⟩ | ⟨h1, h2⟩
      · exact .inl ⟨m + 1, by rw [h1]; congr 1; omega, by simpa using h2⟩
      · exact .inr ⟨h1, by simp [h, h2]⟩
theorem setL_map {env env' : Env} {S : List Nat} (h : ∀ i, i ∉ S → env' i = env i) : setL env S (S.map env') = env' := by
  funext i
  simp only [setL]
  rcases posN_spec S i 0 with ⟨m, h1, h2⟩ | ⟨h1, h2⟩
  · rw [h1]; simp only [nth, Nat.zero_add, List.getD_eq_getElem?_getD, List.getElem?_map, h2]; rfl
  · rw [h1]; exact (h i h2).symm

theorem Wops.sound {ops : Array Oper} {Q : Exit → Act → World → Prop} {KF : KE} {a0 : Act} {I0 : Imm} (hf : Fits ops a0.tmps.size)
    (hQ : ∀ a w I H, Frm (DstIn ops) a0 a → I0.le I → Sat I H w → KF (Act.envOf a) I H → Q .normal a w) :
    ∀ (l : List Oper) (k : Nat) (a : Act) (w : World) (I : Imm) (H : PH), ops.toList.drop k = l → k ≤ ops.size → Frm (DstIn ops) a0 a → I0.le I → Sat I H w →
      Wops P ops l KF (Act.envOf a) I H → wpOps P ops Q ((List.range ops.size).drop k) a w := by
  intro l
  induction l with
  | nil =>
    intro k a w I H hd hk hfr hl hw h
    have : ops.size ≤ k := by have := congrArg List.length hd; simp at this; omega
    rw [List.drop_eq_nil_of_le (by simpa using this)]
    exact hQ a w I H hfr hl hw h
  | cons o rest ih =>
    intro k a w I H hd hk hfr hl hw h
    have ho : ops[k]? = some o := by
      have : (ops.toList.drop k)[0]? = some o := by rw [hd]; rfl
      rw [List.getElem?_drop] at this
      simpa using this
    have hlt : k < ops.size := (Array.getElem?_eq_some_iff.1 ho).1
    have hdr : (List.range ops.size).drop k = k :: (List.range ops.size).drop (k + 1) := by
      rw [List.drop_eq_getElem_cons (by simpa using hlt)]; simp
    rw [hdr]
    simp only [wpOps, ho]
    have hmem : o ∈ ops.toList := Array.mem_toList_iff.2 (Array.mem_of_getElem? ho)
    have hfit : ∀ d, o.dst = some d → d < a.tmps.size := fun d hd => by rw [hfr.size]; exact hf o hmem d hd
    have hst : ∀ v w' I' H', I.le I' → Sat I' H' w' → Wops P ops rest KF (putE (Act.envOf a) o.dst v) I' H' →
        wpOps P ops Q ((List.range ops.size).drop (k + 1)) (a.put o.dst v) w' := by
      intro v w' I' H' h1 h3 h4
      refine ih (k + 1) _ _ I' H' (by rw [← List.drop_drop, hd]; rfl) hlt (hfr.trans (Frm.put a v (fun d hd => ⟨o, hmem, hd⟩) hfit)) (hl.trans h1) h3 ?_
      rw [envOf_put hfit]; exact h4
    have hA : ∀ K : KV, (∀ v I' H', K v I' H' → Wops P ops rest KF (putE (Act.envOf a) o.dst v) I' H') → StepA P o (Act.envOf a) I H K →
        o.wp P a w (wpOps P ops Q ((List.range ops.size).drop (k + 1))) Q := by
      intro K hK hs
      unfold Oper.wp
      rw [← ev_act']
      exact upon_outc (hs.out hw) fun v w' I' H' h1 h2 h3 => hst v w' I' H' h1 h2 (hK v I' H' h3)
    unfold Wops StepG at h
    cases hg : o.guard with
    | none =>
      simp only [hg] at h
      have : gd ops o (Act.envOf a) = some true := by simp only [gd, hg]
      rw [wanted_of_gd this]
      simp only [if_true]
      exact .inl (hA _ (fun _ _ _ h => h) h)
    | some gw =>
      obtain ⟨j, want⟩ := gw
      simp only [hg] at h
      cases ht : (ops[j]?).bind (·.dst) with
      | none => simp only [ht] at h
      | some t =>
        simp only [ht] at h
        rcases h with ⟨b, hb, h1, h2⟩ | ⟨hb, h1⟩
        rotate_left
        · have : gd ops o (Act.envOf a) = some false := by simp only [gd, hg, ht, hb, undef]
          rw [wanted_of_gd this]
          simp only [Bool.false_eq_true, if_false]
          exact hst _ _ _ _ (.refl I) hw h1
        have : gd ops o (Act.envOf a) = some (b == want) := by simp only [gd, hg, ht, hb]
        rw [wanted_of_gd this]
        by_cases e : b = want
        · subst e
          simp only [beq_self_eq_true, if_true]
          exact .inl (hA _ (fun _ _ _ h => h) (h1 rfl))
        · have e' : b = !want := by cases b <;> cases want <;> simp_all
          have e2 : (b == want) = false := by simpa using e
          simp only [e2, Bool.false_eq_true, if_false]
          exact hst _ _ _ _ (.refl I) hw (h2 e')

theorem keep_split {H : PH} {keep : Nat → Bool} : join (fun b => cond (keep b) (H b) none) (fun b => cond (keep b) none (H b)) = H := by
  funext b; simp only [join]; cases keep b <;> simp
theorem keep_disj {I : Imm} {H : PH} {w : World} (h : Sat I H w) (keep : Nat → Bool) : Disj I (fun b => cond (keep b) (H b) none) (fun b => cond (keep b) none (H b)) := by
  refine ⟨fun b o e => ?_, fun b o e => ?_⟩
  · have := h.dis b o e; cases keep b <;> simp [this]
  · cases k : keep b <;> simp [k] at e ⊢

def kOf (kn : KE) (kx : Exit → KE) : Exit → KE
  | .normal => kn
  | e => kx e
theorem okFrom_nodup {ops : Array Oper} {cs ms : List Nat} {n : Nat} : ∀ (r : List Nat) (l : Nat), okFrom ops cs ms n r l = true → r.Nodup ∧ ∀ i ∈ r, Nat.testBit l i = false
  | [], _, _ => ⟨.nil, fun _ h => nomatch h⟩
  | i :: r, l, h => by
    simp only [okFrom, Bool.and_eq_true, Bool.not_eq_true'] at h
    obtain ⟨⟨⟨⟨_, h1⟩, _⟩, _⟩, h2⟩ := h
    obtain ⟨h3, h4⟩ := okFrom_nodup r _ h2
    have h5 : ∀ j ∈ r, j ≠ i ∧ Nat.testBit l j = false := fun j hj => by
      have := h4 j hj
      rw [Nat.testBit_or, Nat.one_shiftLeft, Nat.testBit_two_pow] at this
      simp at this
      exact ⟨fun e => this.2 e.symm, this.1⟩
    refine ⟨List.nodup_cons.2 ⟨fun hi => (h5 i hi).1 rfl, h3⟩, fun j hj => ?_⟩
    cases hj with
    | head => exact h1
    | tail _ hj => exact (h5 j hj).2
theorem okOrd_nodup {ops : Array Oper} {ord : List Nat} (h : okOrd ops ord = true) : (ord.map idx).Nodup := by
  simp only [okOrd, Bool.and_eq_true] at h
  exact (okFrom_nodup _ _ h.2).1
theorem W.sound {ord : List (List Nat)} (hm : P.follows .mixedOrders = true) : ∀ (c : Code) (kn : KE) (kx : Exit → KE) (a0 : Act) (w : World) (I0 : Imm) (H : PH) (Q : Exit → Act → World → Prop),
    fitsC a0.tmps.size c = true → okDraws ord c = true → Sat I0 H w →
    (∀ a w I H, Frm (Asg c) a0 a → I0.le I → Sat I H w → kn (Act.envOf a) I H → Q .normal a w) →
    (∀ e a w I H, e ≠ .normal → Frm (Asg c) a0 a → I0.le I → Sat I H w → kx e (Act.envOf a) I H → Q e a w) →
    W P ord c kn kx (Act.envOf a0) I0 H → c.wp P Q a0 w := by
  intro c
  induction c with
  | skip => exact fun kn kx a0 w I0 H Q _ _ hw hn _ h => wp_skip (hn a0 w I0 H (.refl _ _) (.refl _) hw h)
  | region id ops draw =>
    intro kn kx a0 w I0 H Q hf hok hw hn hx h
    have hfit : Fits ops a0.tmps.size := by
      intro o ho d hd
      simp only [fitsC, List.all_eq_true] at hf
      have := hf o ho
      simp only [hd, Nat.blt_eq] at this
      exact this
    cases draw with
    | false =>
      simp only [W, cond_false] at h
      exact wp_region (by simpa using Wops.sound hfit hn ops.toList 0 a0 w I0 H rfl (Nat.zero_le _) (.refl _ _) (.refl _) hw h)
    | true =>
      simp only [W, cond_true] at h
      simp only [okDraws, cond_true] at hok
      obtain ⟨keep, h⟩ := h
      have hd := keep_disj hw keep
      have hw' : Sat I0 (join (fun b => cond (keep b) (H b) none) (fun b => cond (keep b) none (H b))) { w with drawn := w.drawn + 1 } := by rw [keep_split]; exact hw.drew
      have hl : Live I0 (fun b => cond (keep b) (H b) none) (fun b => cond (keep b) none (H b)) := ⟨hd, _, hw'⟩
      refine wp_region_any hm ?_
      exact WA.sound hfit (fun a w I Hs Ha hfr hle hd hs hk => hn a w I (join Hs Ha) hfr hle hs hk) _ _ a0 _ I0 _ _ (.refl _ _) (.refl _) hd hw' (okOrd_spec hok hl (WD.x (okOrd_nodup hok) _ (fun _ h => h) _ _ _ _ hl h))
  | seq a b iha ihb =>
    intro kn kx a0 w I0 H Q hf hok hw hn hx h
    simp only [fitsC, okDraws, Bool.and_eq_true] at hf hok
    refine wp_seq (iha _ kx a0 w I0 H _ hf.1 hok.1 hw (fun a' w' I' H' hfr hle hs hk => ?_) (fun e a' w' I' H' hne hfr hle hs hk => ?_) h)
    · simp only [Exit.then]
      refine ihb kn kx a' w' I' H' Q (by rw [hfr.size]; exact hf.2) hok.2 hs (fun a2 w2 I2 H2 f2 l2 s2 k2 => ?_) (fun e a2 w2 I2 H2 hne f2 l2 s2 k2 => ?_) hk
      · exact hn a2 w2 I2 H2 ((hfr.mono fun _ => .inl).trans (f2.mono fun _ => .inr)) (hle.trans l2) s2 k2
      · exact hx e a2 w2 I2 H2 hne ((hfr.mono fun _ => .inl).trans (f2.mono fun _ => .inr)) (hle.trans l2) s2 k2
    · have : Exit.then (fun a w => b.wp P Q a w) Q e a' w' = Q e a' w' := by cases e <;> first | exact absurd rfl hne | rfl
      rw [this]
      exact hx e a' w' I' H' hne (hfr.mono fun _ => .inl) hle hs hk
  | cond c a b iha ihb =>
    intro kn kx a0 w I0 H Q hf hok hw hn hx h
    simp only [fitsC, okDraws, Bool.and_eq_true] at hf hok
    have hif : ∀ (ka kb : KE), (∀ a' w' I' H', Frm (Asg (.cond c a b)) a0 a' → I0.le I' → Sat I' H' w' → ka (Act.envOf a') I' H' → kn (Act.envOf a') I' H') →
        (∀ a' w' I' H', Frm (Asg (.cond c a b)) a0 a' → I0.le I' → Sat I' H' w' → kb (Act.envOf a') I' H' → kn (Act.envOf a') I' H') →
        wIf (ev (Act.envOf a0) c) (W P ord a ka kx (Act.envOf a0) I0 H) (W P ord b kb kx (Act.envOf a0) I0 H) → (Code.cond c a b).wp P Q a0 w := by
      intro ka kb h1 h2 ⟨t, ht, h3, h4⟩
      rw [ev_act] at ht
      refine wp_cond_split ht (fun e => ?_) (fun e => ?_)
      · exact iha ka kx a0 w I0 H Q hf.1 hok.1 hw (fun a' w' I' H' hfr hle hs hk => hn a' w' I' H' (hfr.mono fun _ => .inl) hle hs (h1 a' w' I' H' (hfr.mono fun _ => .inl) hle hs hk))
          (fun e a' w' I' H' hne hfr hle hs hk => hx e a' w' I' H' hne (hfr.mono fun _ => .inl) hle hs hk) (h3 e)
      · exact ihb kb kx a0 w I0 H Q hf.2 hok.2 hw (fun a' w' I' H' hfr hle hs hk => hn a' w' I' H' (hfr.mono fun _ => .inr) hle hs (h2 a' w' I' H' (hfr.mono fun _ => .inr) hle hs hk))
          (fun e a' w' I' H' hne hfr hle hs hk => hx e a' w' I' H' hne (hfr.mono fun _ => .inr) hle hs hk) (h4 e)
    simp only [W] at h
    cases fa : falls a with
    | false => simp only [fa, cond_false] at h; exact hif _ _ (fun _ _ _ _ _ _ _ h => h.elim) (fun _ _ _ _ _ _ _ h => h) h
    | true =>
      simp only [fa, cond_true] at h
      cases fb : falls b with
      | false => simp only [fb, cond_false] at h; exact hif _ _ (fun _ _ _ _ _ _ _ h => h) (fun _ _ _ _ _ _ _ h => h.elim) h
      | true =>
        simp only [fb, cond_true, wJ] at h
        refine hif _ _ ?_ ?_ h <;>
        · intro a' w' I' H' hfr hle hs hk
          rw [setL_map fun i hi => hfr.same i fun hA => hi (mem_asg.2 (hA.elim (fun h => .inl (mem_asg.2 (.inr h))) .inr))] at hk
          exact hk
  | block id c ih =>
    intro kn kx a0 w I0 H Q hf hok hw hn hx h
    simp only [fitsC, okDraws] at hf hok
    simp only [W, wJ] at h
    have hj : ∀ a' w' I' H', Frm (Asg c) a0 a' → I0.le I' → Sat I' H' w' → kn (setL (Act.envOf a0) (asg c []) ((asg c []).map (Act.envOf a'))) I' H' → Q .normal a' w' := by
      intro a' w' I' H' hfr hle hs hk
      rw [setL_map fun i hi => hfr.same i fun hA => hi (mem_asg.2 (.inr hA))] at hk
      exact hn a' w' I' H' hfr hle hs hk
    refine wp_block (ih _ _ a0 w I0 H _ hf hok hw (fun a' w' I' H' hfr hle hs hk => hj a' w' I' H' hfr hle hs hk) (fun e a' w' I' H' hne hfr hle hs hk => ?_) h)
    cases e with
    | exit id' =>
      simp only [] at hk
      simp only [Exit.inBlock]
      by_cases e : id' = id
      · subst e; simp only [Nat.beq_refl, cond_true] at hk; rw [if_pos rfl]; exact hj a' w' I' H' hfr hle hs hk
      · have : Nat.beq id' id = false := by rw [← Bool.not_eq_true, Nat.beq_eq]; exact e
        rw [this] at hk
        rw [if_neg e]; exact hx _ a' w' I' H' hne hfr hle hs hk
    | normal => exact absurd rfl hne
    | _ => exact hx _ a' w' I' H' hne hfr hle hs hk
  | loop c ih =>
    intro kn kx a0 w I0 H Q hf hok hw hn hx h
    simp only [fitsC, okDraws] at hf hok
    simp only [W] at h
    obtain ⟨n, h⟩ := h
    refine wp_loop_rounds n ?_
    have key : ∀ (n : Nat) (a : Act) (w : World) (I : Imm) (H : PH), Frm (Asg c) a0 a → I0.le I → Sat I H w →
        iterW (fun kc vs I H => W P ord c (fun env' I H => kc ((asg c []).map env') I H) kx (setL (Act.envOf a0) (asg c []) vs) I H) n ((asg c []).map (Act.envOf a)) I H →
        Code.rounds P c Q n a w := by
      intro n
      induction n with
      | zero => intro a w I H _ _ _ h; exact h.elim
      | succ n ihn =>
        intro a w I H hfr hle hs h
        simp only [iterW] at h
        rw [setL_map fun i hi => hfr.same i fun hA => hi (mem_asg.2 (.inr hA))] at h
        rw [rounds_succ]
        refine ih _ kx a w I H _ (by rw [hfr.size]; exact hf) hok hs (fun a' w' I' H' f2 l2 s2 k2 => ?_) (fun e a' w' I' H' hne f2 l2 s2 k2 => ?_) h
        · exact ihn a' w' I' H' (hfr.trans f2) (hle.trans l2) s2 k2
        · have : Exit.then (Code.rounds P c Q n) Q e a' w' = Q e a' w' := by cases e <;> first | exact absurd rfl hne | rfl
          rw [this]
          exact hx e a' w' I' H' hne (hfr.trans f2) (hle.trans l2) s2 k2
    exact key n a0 w I0 H (.refl _ _) (.refl _) hw h
  | ret => exact fun kn kx a0 w I0 H Q _ _ hw _ hx h => wp_ret (hx .ret a0 w I0 H (by simp) (.refl _ _) (.refl _) hw h)
  | exit id => exact fun kn kx a0 w I0 H Q _ _ hw _ hx h => wp_exit (hx _ a0 w I0 H (by simp) (.refl _ _) (.refl _) hw h)
  | _ => intro kn kx a0 w I0 H Q _ _ _ _ _ h; exact h.elim


/-! ### A whole call -/
def packR : List Value → Value
  | [v] => v
  | l => .tuple l.toArray
def wRes (P : Program) (I : Imm) (H : PH) (R : KV) (env : Env) : List ResultVar → List Value → Prop
  | [], acc => R (packR acc) I H
  | .tmp t :: r, acc => wRes P I H R env r (acc ++ [env t])
  | .cell a T :: r, acc => wRead P (Instr.loadAt T (env a)) I H (fun v => wRes P I H R env r (acc ++ [v]))

theorem loadAt_run {T : TypeId} {v x : Value} {w w' : World} (h : (Instr.loadAt T v).run P w = .ok x w') :
    (do loadVar T (← asAddr v) : Sem Value).run P w = .ok x w' := by
  unfold Instr.loadAt Instr.sureAddr at h
  rw [run_bind] at h ⊢
  cases v with
  | pointer a => cases a with
    | some a => exact h
    | none => simp [stuck] at h
  | _ => simp [stuck] at h

theorem wRes.sound {R : KV} {env : Env} {I : Imm} {H : PH} {w : World} (hw : Sat I H w) : ∀ (rs : List ResultVar) (acc : List Value), wRes P I H R env rs acc →
    ∃ vs : List Value, (rs.mapM fun
      | .tmp t => pure (env t)
      | .cell a t => do loadVar t (← asAddr (env a)) : Sem (List Value)).run P w = .ok vs w ∧ R (packR (acc ++ vs)) I H
  | [], acc, h => ⟨[], rfl, by rw [List.append_nil]; exact h⟩
  | .tmp t :: r, acc, h => by
    obtain ⟨vs, h1, h2⟩ := wRes.sound hw r _ h
    refine ⟨env t :: vs, ?_, by simpa using h2⟩
    rw [List.mapM_cons, run_bind]
    simp only [run_pure, Result.andThen_ok]
    rw [run_bind, h1]; rfl
  | .cell a T :: r, acc, h => by
    obtain ⟨v, hv, h⟩ := h
    obtain ⟨vs, h1, h2⟩ := wRes.sound hw r _ h
    refine ⟨v :: vs, ?_, by simpa using h2⟩
    rw [List.mapM_cons, run_bind]
    simp only []
    rw [loadAt_run (hv w hw)]
    simp only [Result.andThen_ok]
    rw [run_bind, h1]; rfl

theorem results_run {fn : Func} {a : Act} {w : World} {vs : List Value} (h : (fn.results.toList.mapM fun
      | .tmp t => pure (Act.envOf a t)
      | .cell x t => do loadVar t (← asAddr (Act.envOf a x)) : Sem (List Value)).run P w = .ok vs w) :
    (results fn a.tmps).run P w = .ok (packR vs) w := by
  unfold results
  rw [run_bind, Array.mapM_eq_mapM_toList, Sem.run_map]
  have h' : (List.mapM (fun x => match x with
      | .tmp t => pure (a.tmps.getD t undef)
      | .cell x t => do loadVar t (← asAddr (a.tmps.getD x undef)) : ResultVar → Sem Value) fn.results.toList).run P w = .ok vs w := h
  have e := h'
  refine (congrArg (fun r : Result (List Value) => (r.andThen fun l w' => .ok l.toArray w').andThen fun vs w' => (pure (if h : vs.size = 1 then vs[0] else .tuple vs) : Sem Value).run P w') e).trans ?_
  simp only [Result.andThen_ok, run_pure]
  match vs with
  | [] => rfl
  | [v] => rfl
  | v :: u :: l => rfl

/-- The walk of a call: the code of the function, from its arguments on, to what its results are. -/
theorem CallA.enter {f : FuncId} {fn : Func} {c : Code} {args : List Value} {I : Imm} {H : PH} {K : KV} (ord : List (List Nat)) (hm : P.follows .mixedOrders = true)
    (hf : P.funcs[f]? = some fn) (hb : fn.body = some c) (hn : (fn.name == "runtime.NumGoroutine") = false) (hsz : args.length ≤ fn.ntmps) (hfit : fitsC fn.ntmps c = true) (hok : okDraws ord c = true)
    (h : W P ord c (fun env I H => wRes P I H K env fn.results.toList []) (fun e env I H => match e with | .ret => wRes P I H K env fn.results.toList [] | _ => False) (fun i => args.getD i undef) I H) :
    CallA P f args I H K := by
  intro w hw
  have hcall : (callFunc f args.toArray).run P w = .ok (.enter f args.toArray) w := by
    unfold callFunc
    rw [run_bind]
    have hn' : ¬ fn.name = "runtime.NumGoroutine" := by intro e; rw [e] at hn; simp at hn
    simp [program, Sem.run, hf, hn', hb]
  rw [hcall]
  refine calls_of_wp hf hb ?_
  have he : Act.envOf { tmps := args.toArray ++ Array.replicate (fn.ntmps - args.toArray.size) undef, defers := [] } = fun i => args.getD i undef := by
    funext i
    simp only [Act.envOf, Array.getD_eq_getD_getElem?, List.getD_eq_getElem?_getD]
    by_cases c : i < args.length
    · rw [Array.getElem?_append_left (by simpa using c)]; simp
    · rw [Array.getElem?_append_right (by simpa using c), List.getElem?_eq_none (by omega), Array.getElem?_replicate]
      split <;> rfl
  have hs : ({ tmps := args.toArray ++ Array.replicate (fn.ntmps - args.toArray.size) undef, defers := [] } : Act).tmps.size = fn.ntmps := by
    simp; omega
  rw [← he] at h
  have fin : ∀ (a : Act) (w' : World) (I' : Imm) (H' : PH), a.defers = [] → I.le I' → Sat I' H' w' → wRes P I' H' K (Act.envOf a) fn.results.toList [] →
      a.defers = [] ∧ ∃ v, (results fn a.tmps).run P w' = .ok v w' ∧ After I K (.returned v) w' := by
    intro a w' I' H' hd hl hs hr
    obtain ⟨vs, h1, h2⟩ := wRes.sound hs _ _ hr
    exact ⟨hd, _, results_run h1, I', H', hl, hs, by simpa using h2⟩
  refine W.sound hm c _ _ _ w I H _ (by rw [hs]; exact hfit) hok hw (fun a' w' I' H' hfr hle hs hk => ?_) (fun e a' w' I' H' hne hfr hle hs hk => ?_) h
  · exact fin a' w' I' H' hfr.defers hle hs hk
  · cases e with
    | ret => exact fin a' w' I' H' hfr.defers hle hs hk
    | _ => exact hk.elim

theorem CallA.mono {f : FuncId} {args : List Value} {I : Imm} {H : PH} {K K' : KV} (h : CallA P f args I H K) (hk : ∀ v I' H', I.le I' → K v I' H' → K' v I' H') : CallA P f args I H K' := by
  intro w hw
  have := h w hw
  have key : ∀ e w', After I K e w' → After I K' e w' := by
    intro e w' he
    cases e with
    | returned v => obtain ⟨I', H', h1, h2, h3⟩ := he; exact ⟨I', H', h1, h2, hk _ _ _ h1 h3⟩
    | panicked c => exact he
    | outgrown => exact he
  revert this
  unfold UponCall
  cases (callFunc f args.toArray).run P w with
  | ok n w' =>
    cases n <;> first
      | exact id
      | exact fun h => key (.returned _) _ h
      | exact fun h => Calls.mono h key
  | halt x w' => exact id

abbrev vi (n : Int) : Value := .int .i64 n
abbrev vb (b : Bool) : Value := .bool b
abbrev vf (f : FuncId) : Value := .func (.func f) #[] #[]
def codeOf (fn : Func) : Code := match fn.body with | some c => c | none => .skip
def WF (P : Program) (ord : List (List Nat)) (fn : Func) (args : List Value) (I : Imm) (H : PH) (R : KV) : Prop :=
  W P ord (codeOf fn) (fun env I H => wRes P I H R env fn.results.toList []) (fun e env I H => match e with | .ret => wRes P I H R env fn.results.toList [] | _ => False) (fun i => args.getD i undef) I H
theorem WF.ok {f : FuncId} {fn : Func} {args : List Value} {I : Imm} {H : PH} {R : KV} {ord : List (List Nat)} (hm : P.follows .mixedOrders = true)
    (hf : P.funcs[f]? = some fn) (hb : fn.body.isSome = true) (hn : (fn.name == "runtime.NumGoroutine") = false)
    (hc : (fitsC fn.ntmps (codeOf fn) && okDraws ord (codeOf fn) && Nat.ble args.length fn.ntmps) = true) (h : WF P ord fn args I H R) : CallA P f args I H R := by
  simp only [Bool.and_eq_true, Nat.ble_eq] at hc
  obtain ⟨c, hc'⟩ := Option.isSome_iff_exists.1 hb
  have : codeOf fn = c := by simp [codeOf, hc']
  unfold WF at h
  rw [this] at h hc
  exact CallA.enter ord hm hf hc' hn hc.2 hc.1.1 hc.1.2 h

end Go.Proofs.Ytibgbapeblicjaa
