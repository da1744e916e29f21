/- The calculus over the code of a function: its weakest precondition as a plain proposition, and its soundness; regions that draw their order are evaluated in one order that stands for all. -/
import Derived.Test.YtibgbapeblicjaaWa
set_option linter.unusedVariables false
namespace Go.Proofs.Ytibgbapeblicjaa
open Go

/-! ### Regions that draw: the state in three parts: what never changes, what stays through the region, what its actors change -/
def Disj (I : Imm) (Hs Ha : PH) : Prop := (∀ b o, I.blk b = some o → Hs b = none ∧ Ha b = none) ∧ ∀ b o, Hs b = some o → Ha b = none
abbrev KD := Value → Imm → PH → PH → Prop

def Sub (A B : PH) : Prop := ∀ b o, A b = some o → B b = some o
theorem Sub.refl (A : PH) : Sub A A := fun _ _ h => h
theorem Sub.trans {A B C : PH} (h : Sub A B) (k : Sub B C) : Sub A C := fun b o x => k b o (h b o x)
theorem Sub.upd {A : PH} {b : Nat} {o : Obj} (h : A b = none) : Sub A (Go.Proofs.Ytibgbapeblicjaa.upd A b o) := fun c x e => by
  by_cases hc : c = b
  · subst hc; rw [h] at e; cases e
  · rw [upd_ne _ _ hc]; exact e
def Live (I : Imm) (Hs Ha : PH) : Prop := Disj I Hs Ha ∧ ∃ w, Sat I (join Hs Ha) w
def AfterQ (I : Imm) (Hs : PH) (R : Value → Imm → PH → Prop) : Ending → World → Prop
  | .returned v, w' => ∃ I' Ha', I.le I' ∧ Disj I' Hs Ha' ∧ Sat I' (join Hs Ha') w' ∧ R v I' Ha'
  | _, _ => False
def OutcQ (P : Program) (I : Imm) (Hs : PH) (R : Value → Imm → PH → Prop) (r : Result Next) : Prop :=
  match r with
  | .ok (.value v) w' => AfterQ I Hs R (.returned v) w'
  | .ok .skip w' => AfterQ I Hs R (.returned undef) w'
  | .ok (.enter f args) w' => Calls P f args w' (AfterQ I Hs R)
  | _ => False

def clsB : Builtin → Nat
  | .len | .cap | .min | .max => 1
  | .append | .copy | .delete | .clear => 3
  | _ => 4
def cls : Op → Nat
  | .move _ | .assign _ | .makeFunc .. | .pick .. | .build .. | .nilCheck _ | .binOp .. | .unOp .. | .makeInterface .. | .slice .. | .fieldAddr .. | .field ..
  | .indexAddr .. | .index .. | .typeAssert .. | .extract .. | .convert .. => 0
  | .load .. | .lookup .. => 1
  | .alloc _ | .box .. | .buildSlice .. => 2
  | .makeMap _ none => 2
  | .store .. | .mapUpdate .. => 3
  | .call { callee := .value _, .. } => 3
  | .call { callee := .builtin b, .. } => clsB b
  | _ => 4

/-- The class of an operation; a read that is marked may read what the region's actors change: they all come behind it. -/
def clsF (fl : Bool) (o : Op) : Nat :=
  match fl, cls o with
  | true, 1 => 5
  | true, 3 => 6
  | _, c => c
/-- A step as the model carries it out, by its class. -/
def StepX (P : Program) (fl : Bool) (o : Oper) (env : Env) (I : Imm) (Hs Ha : PH) (K : KD) : Prop :=
  match clsF fl o.op with
  | 0 => ∃ v, (∀ w, (execOp (ev env) o).run P w = .ok (.value v) w) ∧ K v I Hs Ha
  | 1 => ∃ v, (∀ w, Sat I Hs w → (execOp (ev env) o).run P w = .ok (.value v) w) ∧ K v I Hs Ha
  | 2 => ∃ (f : Nat → Value) (ob : Obj), (∀ w, (execOp (ev env) o).run P w = .ok (.value (f w.heap.size)) (w.alloc ob)) ∧
      ∀ b, Hs b = none → Live I (upd Hs b ob) Ha → K (f b) I (upd Hs b ob) Ha
  | 3 => ∃ R : Value → Imm → PH → Prop, (∀ Hs' w, Sub Hs Hs' → Disj I Hs' Ha → Sat I (join Hs' Ha) w → OutcQ P I Hs' R ((execOp (ev env) o).run P w)) ∧
      ∀ v I' Ha', I.le I' → Live I' Hs Ha' → R v I' Ha' → K v I' Hs Ha'
  | 5 => ∃ v, (∀ w, Sat I (join Hs Ha) w → (execOp (ev env) o).run P w = .ok (.value v) w) ∧ K v I Hs Ha
  | 6 => ∃ R : Value → Imm → Prop, (∀ Hs' w, Sub Hs Hs' → Disj I Hs' Ha → Sat I (join Hs' Ha) w → OutcQ P I Hs' (fun v I' Ha' => Ha' = Ha ∧ R v I') ((execOp (ev env) o).run P w)) ∧
      ∀ v I', I.le I' → Live I' Hs Ha → R v I' → K v I' Hs Ha
  | _ => False
/-- Does a guarded operation come up? -/
def gd (ops : Array Oper) (o : Oper) (env : Env) : Option Bool :=
  match o.guard with
  | none => some true
  | some (j, want) =>
    match (ops[j]?).bind (·.dst) with
    | some t => (match env t with | .bool b => some (b == want) | .tuple _ => some false | _ => none)
    | none => none
def StepXG (P : Program) (ops : Array Oper) (fl : Bool) (o : Oper) (env : Env) (I : Imm) (Hs Ha : PH) (K : KD) : Prop :=
  match gd ops o env with
  | some true => StepX P fl o env I Hs Ha K
  | some false => K undef I Hs Ha
  | none => False

theorem join_sat {I : Imm} {Hs Ha : PH} {w : World} (h : Sat I (join Hs Ha) w) (hd : Disj I Hs Ha) : Sat I Hs w :=
  h.less fun b o e => by simp [join, hd.2 b o e, e]

theorem Disj.alloc {I : Imm} {Hs Ha : PH} (hd : Disj I Hs Ha) {b : Nat} (ob : Obj) (h1 : I.blk b = none) (h3 : Ha b = none) : Disj I (upd Hs b ob) Ha := by
  refine ⟨fun c o e => ?_, fun c o e => ?_⟩
  · have : c ≠ b := fun h => by subst h; rw [h1] at e; cases e
    rw [upd_ne _ _ this]; exact hd.1 c o e
  · by_cases hc : c = b
    · subst hc; exact h3
    · rw [upd_ne _ _ hc] at e; exact hd.2 c o e
theorem Disj.less {I : Imm} {Hs Ha : PH} {b : Nat} {ob : Obj} (hd : Disj I (upd Hs b ob) Ha) (h2 : Hs b = none) : Disj I Hs Ha ∧ I.blk b = none ∧ Ha b = none := by
  refine ⟨⟨fun c o e => ?_, fun c o e => ?_⟩, ?_, hd.2 b ob (upd_same _ _ _)⟩
  · have := hd.1 c o e
    by_cases hc : c = b
    · subst hc; rw [upd_same] at this; cases this.1
    · rw [upd_ne _ _ hc] at this; exact this
  · by_cases hc : c = b
    · subst hc; rw [h2] at e; cases e
    · exact hd.2 c o (by rw [upd_ne _ _ hc]; exact e)
  · cases e : I.blk b with
    | none => rfl
    | some o => have := (hd.1 b o e).1; rw [upd_same] at this; cases this
theorem join_upd_left {Hs Ha : PH} {b : Nat} {ob : Obj} (h : Ha b = none) : join (upd Hs b ob) Ha = upd (join Hs Ha) b ob := by
  funext c; by_cases hc : c = b
  · subst hc; simp [join, upd, h]
  · simp [join, upd, hc]

/-! #### The order theorem -/
variable {P : Program} {ops : Array Oper} {fl : Bool}

def stepI (P : Program) (ops : Array Oper) (fl : Nat → Bool) (i : Nat) (env : Env) (I : Imm) (Hs Ha : PH) (K : Env → Imm → PH → PH → Prop) : Prop :=
  match ops[i]? with
  | none => False
  | some o => StepXG P ops (fl i) o env I Hs Ha (fun v => K (putE env o.dst v))

def WA (P : Program) (ops : Array Oper) (fl : Nat → Bool) (KF : Env → Imm → PH → PH → Prop) : Nat → Array Bool → Env → Imm → PH → PH → Prop
  | 0, listed, env, I, Hs, Ha => Region.ready .any ops listed = [] ∧ KF env I Hs Ha
  | n + 1, listed, env, I, Hs, Ha => (Region.ready .any ops listed = [] → KF env I Hs Ha) ∧
      ∀ i ∈ Region.ready .any ops listed, stepI P ops fl i env I Hs Ha (WA P ops fl KF n (listed.setIfInBounds i true))

theorem putE_comm (env : Env) {x y : Option Tmp} (v u : Value) (h : ∀ d, x = some d → y ≠ some d) : putE (putE env x v) y u = putE (putE env y u) x v := by
  cases x with
  | none => rfl
  | some d =>
    cases y with
    | none => rfl
    | some e =>
      have hne : d ≠ e := fun he => h d rfl (he ▸ rfl)
      funext i
      simp only [putE]
      by_cases h1 : i = d
      · subst h1
        have : Nat.beq i e = false := by rw [← Bool.not_eq_true, Nat.beq_eq]; exact hne
        simp [this]
      · have : Nat.beq i d = false := by rw [← Bool.not_eq_true, Nat.beq_eq]; exact h1
        simp [this]

theorem ev_put {env : Env} {dst : Option Tmp} {v : Value} {x : Operand} (h : ∀ d, dst = some d → x ≠ .tmp d) : ev (putE env dst v) x = ev env x := by
  cases dst with
  | none => rfl
  | some d =>
    cases x with
    | tmp t =>
      have hne : Nat.beq t d = false := by rw [← Bool.not_eq_true, Nat.beq_eq]; exact fun e => h d rfl (e ▸ rfl)
      simp [ev, putE, hne]
    | _ => rfl
theorem exec_put (o : Oper) (hs : ∀ cs b, o.op ≠ .select cs b) (env : Env) (dst : Option Tmp) (v : Value) (h : ∀ d, dst = some d → d ∉ o.looksAt ops) :
    execOp (ev (putE env dst v)) o = execOp (ev env) o :=
  execOp_congr o hs fun x hx => ev_put fun d hd hxd => h d hd (by
    subst hxd
    exact List.mem_append_left _ (List.mem_filterMap.2 ⟨.tmp d, by simpa using hx, rfl⟩))

theorem clsF_four {o : Op} : clsF fl o = 4 ↔ cls o = 4 := by
  unfold clsF; split <;> simp_all
theorem cls_select {o : Oper} (h : cls o.op ≠ 4) : ∀ cs b, o.op ≠ .select cs b := fun cs b e => h (by rw [e]; rfl)
theorem StepX.cls_ne {o : Oper} {env : Env} {I : Imm} {Hs Ha : PH} {K : KD} (h : StepX P fl o env I Hs Ha K) : cls o.op ≠ 4 := fun e => by
  simp [StepX, clsF_four.2 e] at h

theorem StepX.put {o : Oper} {env : Env} {I : Imm} {Hs Ha : PH} {K : KD} {dst : Option Tmp} {v : Value} (hc : cls o.op ≠ 4) (h : ∀ d, dst = some d → d ∉ o.looksAt ops) :
    StepX P fl o (putE env dst v) I Hs Ha K ↔ StepX P fl o env I Hs Ha K := by
  unfold StepX; rw [exec_put (ops := ops) o (cls_select hc) env dst v h]

def Ext (I : Imm) (Hs : PH) (I' : Imm) (Hs' : PH) : Prop := I.le I' ∧ ∀ b o, Hs b = some o → Hs' b = some o
theorem Ext.refl (I : Imm) (Hs : PH) : Ext I Hs I Hs := ⟨.refl I, fun _ _ h => h⟩
theorem Ext.sat {I I' : Imm} {Hs Hs' : PH} (h : Ext I Hs I' Hs') {w : World} (hw : Sat I' Hs' w) : Sat I Hs w := (hw.lessI h.1).less h.2
theorem StepX.monoE {o : Oper} {env : Env} {I : Imm} {Hs Ha : PH} {K K' : KD} (h : StepX P fl o env I Hs Ha K) (hl : Live I Hs Ha)
    (hk : ∀ v I' Hs' Ha', Ext I Hs I' Hs' → Live I' Hs' Ha' → K v I' Hs' Ha' → K' v I' Hs' Ha') : StepX P fl o env I Hs Ha K' := by
  unfold StepX at *
  split at h
  · obtain ⟨v, hr, h⟩ := h; exact ⟨v, hr, hk _ _ _ _ (.refl _ _) hl h⟩
  · obtain ⟨v, hr, h⟩ := h; exact ⟨v, hr, hk _ _ _ _ (.refl _ _) hl h⟩
  · obtain ⟨f, ob, hr, h⟩ := h
    refine ⟨f, ob, hr, fun b h1 h2 => hk _ _ _ _ ⟨.refl I, fun c o e => ?_⟩ h2 (h b h1 h2)⟩
    by_cases hc : c = b
    · subst hc; rw [h1] at e; cases e
    · rw [upd_ne _ _ hc]; exact e
  · obtain ⟨R, hr, h⟩ := h; exact ⟨R, hr, fun v I' Ha' h1 h2 h3 => hk _ _ _ _ ⟨h1, fun _ _ e => e⟩ h2 (h v I' Ha' h1 h2 h3)⟩
  · obtain ⟨v, hr, h⟩ := h; exact ⟨v, hr, hk _ _ _ _ (.refl _ _) hl h⟩
  · obtain ⟨R, hr, h⟩ := h; exact ⟨R, hr, fun v I' h1 h2 h3 => hk _ _ _ _ ⟨h1, fun _ _ e => e⟩ h2 (h v I' h1 h2 h3)⟩
  · exact h
theorem StepXG.monoE {o : Oper} {env : Env} {I : Imm} {Hs Ha : PH} {K K' : KD} (h : StepXG P ops fl o env I Hs Ha K) (hl : Live I Hs Ha)
    (hk : ∀ v I' Hs' Ha', Ext I Hs I' Hs' → Live I' Hs' Ha' → K v I' Hs' Ha' → K' v I' Hs' Ha') : StepXG P ops fl o env I Hs Ha K' := by
  unfold StepXG at *
  split at h
  · exact h.monoE hl hk
  · exact hk _ _ _ _ (.refl _ _) hl h
  · exact h

/-- Which of two unordered operations may be taken first for good. -/
def compat (ci cj : Nat) : Bool :=
  match ci with
  | 0 | 1 => true
  | 5 => Nat.beq cj 0 || Nat.beq cj 1 || Nat.beq cj 2 || Nat.beq cj 5 || Nat.beq cj 6
  | 2 | 3 | 6 => Nat.beq cj 0 || Nat.beq cj 2
  | _ => false

theorem Live.alloc {I : Imm} {Hs Ha : PH} {w : World} (hd : Disj I Hs Ha) (hw : Sat I (join Hs Ha) w) (ob : Obj) :
    Hs w.heap.size = none ∧ Live I (upd Hs w.heap.size ob) Ha := by
  obtain ⟨f1, f2⟩ := hw.fresh
  have f3 : Ha w.heap.size = none := by
    simp only [join] at f2; cases e : Ha w.heap.size with
    | none => rfl
    | some o => rw [e] at f2; cases f2
  have f4 : Hs w.heap.size = none := by simpa [join, f3] using f2
  refine ⟨f4, hd.alloc ob f1 f3, w.alloc ob, ?_⟩
  rw [join_upd_left f3]; exact hw.alloc ob
theorem Live.less {I : Imm} {Hs Ha : PH} {b : Nat} {ob : Obj} (h : Live I (upd Hs b ob) Ha) (h2 : Hs b = none) : Live I Hs Ha := by
  obtain ⟨hd, w, hw⟩ := h
  obtain ⟨d, h1, h3⟩ := hd.less h2
  refine ⟨d, w, hw.less fun c o e => ?_⟩
  rw [join_upd_left h3]
  by_cases hc : c = b
  · subst hc; simp [join, h2, h3] at e
  · rw [upd_ne _ _ hc]; exact e

theorem OutcQ.some {I : Imm} {Hs : PH} {R : Value → Imm → PH → Prop} {r : Result Next} (ho : OutcQ P I Hs R r) : ∃ v I' Ha' w', I.le I' ∧ Disj I' Hs Ha' ∧ Sat I' (join Hs Ha') w' ∧ R v I' Ha' := by
  have key : ∀ e w', AfterQ I Hs R e w' → ∃ v I' Ha' w', I.le I' ∧ Disj I' Hs Ha' ∧ Sat I' (join Hs Ha') w' ∧ R v I' Ha' := by
    intro e w' ha
    cases e with
    | returned v =>
      obtain ⟨I', Ha', h1, h2, h3, h4⟩ := ha
      exact ⟨v, I', Ha', w', h1, h2, h3, h4⟩
    | panicked c => exact ha.elim
    | outgrown => exact ha.elim
  revert ho
  cases r with
  | ok n w' =>
    cases n
    case enter f args =>
      intro ho
      obtain ⟨e, w', fr, ha, _⟩ := Calls.mono ho (fun _ _ h => h) []
      exact key e w' ha
    all_goals first
      | exact False.elim
      | exact fun ho => key (.returned _) _ ho
  | halt x w' => exact False.elim
/-- Some state comes behind a step. -/
theorem StepX.witness {o : Oper} {env : Env} {I : Imm} {Hs Ha : PH} {K : KD} (h : StepX P fl o env I Hs Ha K) (hl : Live I Hs Ha) :
    ∃ v I' Hs' Ha', Live I' Hs' Ha' ∧ K v I' Hs' Ha' := by
  obtain ⟨hd, w, hw⟩ := hl
  unfold StepX at h
  split at h
  · obtain ⟨v, hr, h⟩ := h; exact ⟨_, _, _, _, ⟨hd, w, hw⟩, h⟩
  · obtain ⟨v, hr, h⟩ := h; exact ⟨_, _, _, _, ⟨hd, w, hw⟩, h⟩
  · obtain ⟨f, ob, hr, h⟩ := h
    obtain ⟨h1, h2⟩ := Live.alloc hd hw ob
    exact ⟨_, _, _, _, h2, h _ h1 h2⟩
  · obtain ⟨R, hr, h⟩ := h
    obtain ⟨v, I', Ha', w', h1, h2, h3, h4⟩ := (hr Hs w (.refl _) hd hw).some
    exact ⟨_, _, _, _, ⟨h2, w', h3⟩, h v I' Ha' h1 ⟨h2, w', h3⟩ h4⟩
  · obtain ⟨v, hr, h⟩ := h; exact ⟨_, _, _, _, ⟨hd, w, hw⟩, h⟩
  · obtain ⟨R, hr, h⟩ := h
    obtain ⟨v, I', Ha', w', h1, h2, h3, h4, h5⟩ := (hr Hs w (.refl _) hd hw).some
    subst h4
    exact ⟨_, _, _, _, ⟨h2, w', h3⟩, h v I' h1 ⟨h2, w', h3⟩ h5⟩
  · exact h.elim

section
variable {o : Oper} {env : Env} {I : Imm} {Hs Ha : PH} {K : KD}
theorem StepX.eq0 (c : clsF fl o.op = 0) : StepX P fl o env I Hs Ha K ↔ ∃ v, (∀ w, (execOp (ev env) o).run P w = .ok (.value v) w) ∧ K v I Hs Ha := by simp only [StepX, c]
theorem StepX.eq1 (c : clsF fl o.op = 1) : StepX P fl o env I Hs Ha K ↔ ∃ v, (∀ w, Sat I Hs w → (execOp (ev env) o).run P w = .ok (.value v) w) ∧ K v I Hs Ha := by simp only [StepX, c]
theorem StepX.eq2 (c : clsF fl o.op = 2) : StepX P fl o env I Hs Ha K ↔ ∃ (f : Nat → Value) (ob : Obj), (∀ w, (execOp (ev env) o).run P w = .ok (.value (f w.heap.size)) (w.alloc ob)) ∧
      ∀ b, Hs b = none → Live I (upd Hs b ob) Ha → K (f b) I (upd Hs b ob) Ha := by simp only [StepX, c]
theorem StepX.eq3 (c : clsF fl o.op = 3) : StepX P fl o env I Hs Ha K ↔ ∃ R : Value → Imm → PH → Prop, (∀ Hs' w, Sub Hs Hs' → Disj I Hs' Ha → Sat I (join Hs' Ha) w → OutcQ P I Hs' R ((execOp (ev env) o).run P w)) ∧
      ∀ v I' Ha', I.le I' → Live I' Hs Ha' → R v I' Ha' → K v I' Hs Ha' := by simp only [StepX, c]
theorem StepX.eq6 (c : clsF fl o.op = 6) : StepX P fl o env I Hs Ha K ↔ ∃ R : Value → Imm → Prop, (∀ Hs' w, Sub Hs Hs' → Disj I Hs' Ha → Sat I (join Hs' Ha) w → OutcQ P I Hs' (fun v I' Ha' => Ha' = Ha ∧ R v I') ((execOp (ev env) o).run P w)) ∧
      ∀ v I', I.le I' → Live I' Hs Ha → R v I' → K v I' Hs Ha := by simp only [StepX, c]
theorem StepX.eq5 (c : clsF fl o.op = 5) : StepX P fl o env I Hs Ha K ↔ ∃ v, (∀ w, Sat I (join Hs Ha) w → (execOp (ev env) o).run P w = .ok (.value v) w) ∧ K v I Hs Ha := by simp only [StepX, c]
end
theorem maker_uniq {o : Oper} {env : Env} {f f' : Nat → Value} {ob ob' : Obj} (h : ∀ w, (execOp (ev env) o).run P w = .ok (.value (f w.heap.size)) (w.alloc ob))
    (h' : ∀ w, (execOp (ev env) o).run P w = .ok (.value (f' w.heap.size)) (w.alloc ob')) : ob = ob' ∧ ∀ n, f n = f' n := by
  refine ⟨?_, fun n => ?_⟩
  · have := (h default).symm.trans (h' default)
    simp only [Result.ok.injEq, Next.value.injEq, World.alloc, World.mk.injEq, Array.push_eq_push] at this
    exact this.2.1.1
  · have := (h { (default : World) with heap := Array.replicate n default }).symm.trans (h' { (default : World) with heap := Array.replicate n default })
    simp only [Result.ok.injEq, Next.value.injEq, Array.size_replicate] at this
    exact this.1

theorem join_less {I : Imm} {Hs Ha : PH} {b : Nat} {ob : Obj} {w : World} (h : Sat I (join (upd Hs b ob) Ha) w) (h2 : Hs b = none) : Sat I (join Hs Ha) w := by
  refine h.less fun c o e => ?_
  simp only [join] at e ⊢
  cases ha : Ha c with
  | some x => rw [ha] at e; exact e
  | none =>
    rw [ha] at e; simp at e ⊢
    have : c ≠ b := fun x => by subst x; rw [h2] at e; cases e
    rw [upd_ne _ _ this]; exact e
theorem swapX {fi fj : Bool} {oi oj : Oper} {env : Env} {I : Imm} {Hs Ha : PH} {K : Value → KD} (hc : compat (clsF fi oi.op) (clsF fj oj.op) = true) (hl : Live I Hs Ha)
    (h : StepX P fi oi env I Hs Ha (fun v I Hs Ha => StepX P fj oj env I Hs Ha (K v))) :
    StepX P fj oj env I Hs Ha (fun u I Hs Ha => StepX P fi oi env I Hs Ha (fun v => K v u)) := by
  have hwit := h.witness hl
  obtain ⟨hd, w, hw⟩ := hl
  by_cases c0 : clsF fi oi.op = 0
  · rw [StepX.eq0 c0] at h
    obtain ⟨v, hr, h⟩ := h
    exact h.monoE ⟨hd, w, hw⟩ fun u I' Hs' Ha' _ _ hk => (StepX.eq0 c0).2 ⟨v, hr, hk⟩
  by_cases c1 : clsF fi oi.op = 1
  · rw [StepX.eq1 c1] at h
    obtain ⟨v, hr, h⟩ := h
    exact h.monoE ⟨hd, w, hw⟩ fun u I' Hs' Ha' he _ hk => (StepX.eq1 c1).2 ⟨v, fun w' hw' => hr w' (he.sat hw'), hk⟩
  by_cases c2 : clsF fi oi.op = 2
  · rw [c2] at hc
    simp only [compat, Bool.or_eq_true, Nat.beq_eq] at hc
    rw [StepX.eq2 c2] at h
    obtain ⟨f, ob, hr, h⟩ := h
    obtain ⟨n1, n2⟩ := Live.alloc hd hw ob
    have h0 := h _ n1 n2
    rcases hc with hc | hc
    · rw [StepX.eq0 hc] at h0 ⊢
      obtain ⟨u, hu, _⟩ := h0
      refine ⟨u, hu, (StepX.eq2 c2).2 ⟨f, ob, hr, fun b h1 h2 => ?_⟩⟩
      obtain ⟨u', hu', hk⟩ := (StepX.eq0 hc).1 (h b h1 h2)
      have : u' = u := by have := (hu' w).symm.trans (hu w); cases this; rfl
      subst this; exact hk
    · rw [StepX.eq2 hc] at h0 ⊢
      obtain ⟨f', ob', hr', _⟩ := h0
      refine ⟨f', ob', hr', fun b' h1' h2' => (StepX.eq2 c2).2 ⟨f, ob, hr, fun b h1 h2 => ?_⟩⟩
      have hne : b ≠ b' := fun e => by subst e; rw [upd_same] at h1; cases h1
      have hb : Hs b = none := by rwa [upd_ne _ _ hne] at h1
      have e1 : upd (upd Hs b' ob') b ob = upd (upd Hs b ob) b' ob' := by
        funext c; by_cases x : c = b
        · subst x; simp [upd, hne]
        · by_cases y : c = b'
          · subst y; simp [upd, x]
          · simp [upd, x, y]
      rw [e1] at h2 ⊢
      have hb' : upd Hs b ob b' = none := by rw [upd_ne _ _ (Ne.symm hne)]; exact h1'
      obtain ⟨f2, ob2, hr2, hk⟩ := (StepX.eq2 hc).1 (h b hb (h2.less hb'))
      obtain ⟨rfl, e3⟩ := maker_uniq hr2 hr'
      rw [← e3]
      exact hk b' hb' h2
  by_cases c3 : clsF fi oi.op = 3
  · rw [c3] at hc
    simp only [compat, Bool.or_eq_true, Nat.beq_eq] at hc
    rw [StepX.eq3 c3] at h
    obtain ⟨R, hr, h⟩ := h
    obtain ⟨v0, I0, Hs0, Ha0, l0, h0⟩ := hwit
    rcases hc with hc | hc
    · rw [StepX.eq0 hc] at h0 ⊢
      obtain ⟨u, hu, _⟩ := h0
      refine ⟨u, hu, (StepX.eq3 c3).2 ⟨R, hr, fun v I' Ha' h1 h2 h3 => ?_⟩⟩
      obtain ⟨u', hu', hk⟩ := (StepX.eq0 hc).1 (h v I' Ha' h1 h2 h3)
      have : u' = u := by have := (hu' w).symm.trans (hu w); cases this; rfl
      subst this; exact hk
    · rw [StepX.eq2 hc] at h0 ⊢
      obtain ⟨f', ob', hr', _⟩ := h0
      refine ⟨f', ob', hr', fun b' h1' h2' => (StepX.eq3 c3).2 ⟨R, fun Hs' w hsub => hr Hs' w ((Sub.upd h1').trans hsub), fun v I' Ha' h1 h2 h3 => ?_⟩⟩
      obtain ⟨f2, ob2, hr2, hk⟩ := (StepX.eq2 hc).1 (h v I' Ha' h1 (h2.less h1') h3)
      obtain ⟨rfl, e3⟩ := maker_uniq hr2 hr'
      rw [← e3]
      exact hk b' h1' h2
  by_cases c5 : clsF fi oi.op = 5
  · rw [c5] at hc
    simp only [compat, Bool.or_eq_true, Nat.beq_eq] at hc
    rw [StepX.eq5 c5] at h
    obtain ⟨v, hr, h⟩ := h
    rcases hc with (((hc | hc) | hc) | hc) | hc
    · obtain ⟨u, hu, hk⟩ := (StepX.eq0 hc).1 h; exact (StepX.eq0 hc).2 ⟨u, hu, (StepX.eq5 c5).2 ⟨v, hr, hk⟩⟩
    · obtain ⟨u, hu, hk⟩ := (StepX.eq1 hc).1 h; exact (StepX.eq1 hc).2 ⟨u, hu, (StepX.eq5 c5).2 ⟨v, hr, hk⟩⟩
    · obtain ⟨f, ob, hu, hk⟩ := (StepX.eq2 hc).1 h
      exact (StepX.eq2 hc).2 ⟨f, ob, hu, fun b h1 h2 => (StepX.eq5 c5).2 ⟨v, fun w' hw' => hr w' (join_less hw' h1), hk b h1 h2⟩⟩
    · obtain ⟨u, hu, hk⟩ := (StepX.eq5 hc).1 h; exact (StepX.eq5 hc).2 ⟨u, hu, (StepX.eq5 c5).2 ⟨v, hr, hk⟩⟩
    · obtain ⟨R, hu, hk⟩ := (StepX.eq6 hc).1 h
      exact (StepX.eq6 hc).2 ⟨R, hu, fun u I' h1 h2 h3 => (StepX.eq5 c5).2 ⟨v, fun w' hw' => hr w' (hw'.lessI h1), hk u I' h1 h2 h3⟩⟩
  by_cases c6 : clsF fi oi.op = 6
  · rw [c6] at hc
    simp only [compat, Bool.or_eq_true, Nat.beq_eq] at hc
    rw [StepX.eq6 c6] at h
    obtain ⟨R, hr, h⟩ := h
    obtain ⟨v0, I0, Hs0, Ha0, l0, h0⟩ := hwit
    rcases hc with hc | hc
    · rw [StepX.eq0 hc] at h0 ⊢
      obtain ⟨u, hu, _⟩ := h0
      refine ⟨u, hu, (StepX.eq6 c6).2 ⟨R, hr, fun v I' h1 h2 h3 => ?_⟩⟩
      obtain ⟨u', hu', hk⟩ := (StepX.eq0 hc).1 (h v I' h1 h2 h3)
      have : u' = u := by have := (hu' w).symm.trans (hu w); cases this; rfl
      subst this; exact hk
    · rw [StepX.eq2 hc] at h0 ⊢
      obtain ⟨f', ob', hr', _⟩ := h0
      refine ⟨f', ob', hr', fun b' h1' h2' => (StepX.eq6 c6).2 ⟨R, fun Hs' w hsub => hr Hs' w ((Sub.upd h1').trans hsub), fun v I' h1 h2 h3 => ?_⟩⟩
      obtain ⟨f2, ob2, hr2, hk⟩ := (StepX.eq2 hc).1 (h v I' h1 (h2.less h1') h3)
      obtain ⟨rfl, e3⟩ := maker_uniq hr2 hr'
      rw [← e3]
      exact hk b' h1' h2
  · exfalso
    revert hc
    generalize clsF fi oi.op = n at *
    unfold compat
    split <;> simp_all


/-! #### The same with guards, and from a state of any order -/
theorem gd_put (o : Oper) (env : Env) (dst : Option Tmp) (v : Value) (h : ∀ d, dst = some d → d ∉ o.looksAt ops) : gd ops o (putE env dst v) = gd ops o env := by
  cases dst with
  | none => rfl
  | some d =>
    unfold gd
    cases hg : o.guard with
    | none => rfl
    | some gw =>
      obtain ⟨g, want⟩ := gw
      simp only []
      cases ht : (ops[g]?).bind (·.dst) with
      | none => rfl
      | some t =>
        have hne : Nat.beq t d = false := by
          rw [← Bool.not_eq_true, Nat.beq_eq]
          exact fun e => h d rfl (by subst e; simp [Oper.looksAt, hg, ht])
        simp only [putE, hne, cond_false]

theorem StepXG.put {o : Oper} {env : Env} {I : Imm} {Hs Ha : PH} {K : KD} {dst : Option Tmp} {v : Value} (hc : cls o.op ≠ 4) (h : ∀ d, dst = some d → d ∉ o.looksAt ops) :
    StepXG P ops fl o (putE env dst v) I Hs Ha K ↔ StepXG P ops fl o env I Hs Ha K := by
  unfold StepXG
  rw [gd_put o env dst v h]
  split
  · exact StepX.put (ops := ops) hc h
  · rfl
  · rfl
theorem StepXG.witness {o : Oper} {env : Env} {I : Imm} {Hs Ha : PH} {K : KD} (h : StepXG P ops fl o env I Hs Ha K) (hl : Live I Hs Ha) :
    ∃ v I' Hs' Ha', Live I' Hs' Ha' ∧ K v I' Hs' Ha' := by
  unfold StepXG at h
  split at h
  · exact h.witness hl
  · exact ⟨_, _, _, _, hl, h⟩
  · exact h.elim

theorem swapXG {fi fj : Bool} {oi oj : Oper} {env : Env} {I : Imm} {Hs Ha : PH} {K : Value → KD} (hc : compat (clsF fi oi.op) (clsF fj oj.op) = true) (hl : Live I Hs Ha)
    (h : StepXG P ops fi oi env I Hs Ha (fun v I Hs Ha => StepXG P ops fj oj env I Hs Ha (K v))) :
    StepXG P ops fj oj env I Hs Ha (fun u I Hs Ha => StepXG P ops fi oi env I Hs Ha (fun v => K v u)) := by
  obtain ⟨_, _, _, _, _, h0⟩ := h.witness hl
  unfold StepXG at *
  cases ei : gd ops oi env with
  | none => simp only [ei] at h
  | some bi =>
    cases ej : gd ops oj env with
    | none => simp only [ej] at h0
    | some bj =>
      simp only [ei, ej] at h ⊢
      cases bi <;> cases bj <;> simp only [] at h ⊢
      · exact h
      · exact h
      · exact h
      · exact swapX hc hl h

inductive Bef (ops : Array Oper) (i : Nat) : Nat → Prop
  | one {j : Nat} {oj : Oper} {e : Edge} (h : ops[j]? = some oj) (he : e ∈ oj.after) (hb : Region.binds .any e = true) (hi : e.on = i) : Bef ops i j
  | more {j : Nat} {oj : Oper} {e : Edge} (h : ops[j]? = some oj) (he : e ∈ oj.after) (hb : Region.binds .any e = true) (hi : Bef ops i e.on) : Bef ops i j
def DC (ops : Array Oper) (l : Array Bool) : Prop :=
  ∀ (j : Nat) oj, ops[j]? = some oj → l.getD j false = true → ∀ e ∈ oj.after, Region.binds .any e = true → l.getD e.on false = true

theorem Bef.listed {i j : Nat} (h : Bef ops i j) {l : Array Bool} (hd : DC ops l) : l.getD j false = true → l.getD i false = true := by
  induction h with
  | one h he hb hi => intro hl; subst hi; exact hd _ _ h hl _ he hb
  | more h he hb _ ih => intro hl; exact ih (hd _ _ h hl _ he hb)
theorem getD_tf {l : Array Bool} {i : Nat} (h : l.getD i true = false) : l.getD i false = false := by
  rcases Nat.lt_or_ge i l.size with h' | h'
  · simp [h'] at h ⊢; exact h
  · simp [Array.getElem?_eq_none h'] at h
theorem Bef.notReady {i j : Nat} (h : Bef ops i j) {l : Array Bool} (hd : DC ops l) (hj : j ∈ Region.ready .any ops l) : l.getD i false = true := by
  obtain ⟨_, oj, hoj, hall⟩ := mem_ready.1 hj
  cases h with
  | one h he hb hi => subst hi; rw [hoj] at h; cases h; exact hall _ he hb
  | more h he hb hi => rw [hoj] at h; cases h; exact hi.listed hd (hall _ he hb)
theorem DC.step {l : Array Bool} (hd : DC ops l) {j : Nat} (hj : j ∈ Region.ready .any ops l) : DC ops (l.setIfInBounds j true) := by
  obtain ⟨_, oj, hoj, hall⟩ := mem_ready.1 hj
  intro k ok hk hl e he hb
  by_cases hkj : k = j
  · subst hkj; rw [hoj] at hk; cases hk; exact getD_set_true (hall e he hb)
  · rw [getD_set_ne false (Ne.symm hkj)] at hl; exact getD_set_true (hd k ok hk hl e he hb)

def Free (ops : Array Oper) (fl : Nat → Bool) (i : Nat) (oi : Oper) (l : Array Bool) : Prop :=
  ∀ (j : Nat) oj, ops[j]? = some oj → j ≠ i → l.getD j true = false → ¬ Bef ops i j → compat (clsF (fl i) oi.op) (clsF (fl j) oj.op) = true ∧ oi.apart ops oj = true
theorem Free.step {fl : Nat → Bool} {i : Nat} {oi : Oper} {l : Array Bool} (h : Free ops fl i oi l) (j : Nat) : Free ops fl i oi (l.setIfInBounds j true) := by
  intro k ok hk hki hun hb
  refine h k ok hk hki ?_ hb
  by_cases hjk : j = k
  · subst hjk
    rcases Nat.lt_or_ge j l.size with h' | h'
    · simp [h'] at hun
    · simp [h'] at hun
  · rw [getD_set_ne true hjk] at hun; exact hun

theorem stepI.mono {fl : Nat → Bool} {i : Nat} {env : Env} {I : Imm} {Hs Ha : PH} {K K' : Env → Imm → PH → PH → Prop} (h : stepI P ops fl i env I Hs Ha K) (hl : Live I Hs Ha)
    (hk : ∀ env I' Hs' Ha', Ext I Hs I' Hs' → Live I' Hs' Ha' → K env I' Hs' Ha' → K' env I' Hs' Ha') : stepI P ops fl i env I Hs Ha K' := by
  unfold stepI at *
  cases hi : ops[i]? with
  | none => simp only [hi] at h
  | some o =>
    simp only [hi] at h ⊢
    exact StepXG.monoE h hl fun v I' Hs' Ha' he hl' hk' => hk _ _ _ _ he hl' hk'
theorem stepI.witness {fl : Nat → Bool} {i : Nat} {env : Env} {I : Imm} {Hs Ha : PH} {K : Env → Imm → PH → PH → Prop} (h : stepI P ops fl i env I Hs Ha K) (hl : Live I Hs Ha) :
    ∃ env I' Hs' Ha', Live I' Hs' Ha' ∧ K env I' Hs' Ha' := by
  unfold stepI at h
  cases hi : ops[i]? with
  | none => simp only [hi] at h
  | some o =>
    simp only [hi] at h
    obtain ⟨v, I', Hs', Ha', hl', hk⟩ := StepXG.witness h hl
    exact ⟨_, I', Hs', Ha', hl', hk⟩

/-- An operation that may come up now may be taken first, if each that could come up ahead of it may come up behind it as well. -/
theorem WA.first {fl : Nat → Bool} {KF : Env → Imm → PH → PH → Prop} {i : Nat} {oi : Oper} (hi : ops[i]? = some oi) (hcl : ∀ (j : Nat) oj, ops[j]? = some oj → cls oj.op ≠ 4) :
    ∀ (n : Nat) (listed : Array Bool) (env : Env) (I : Imm) (Hs Ha : PH), DC ops listed → Free ops fl i oi listed → i ∈ Region.ready .any ops listed → Live I Hs Ha →
      stepI P ops fl i env I Hs Ha (WA P ops fl KF n (listed.setIfInBounds i true)) → WA P ops fl KF (n + 1) listed env I Hs Ha := by
  intro n
  induction n with
  | zero =>
    intro listed env I Hs Ha hd hf hr hl H
    refine ⟨fun h => (by rw [h] at hr; cases hr), fun j hj => ?_⟩
    by_cases hji : j = i
    · subst hji; exact H
    · have := ready_mono hj hji
      obtain ⟨_, _, _, _, _, H'⟩ := H.witness hl
      rw [H'.1] at this
      cases this
  | succ n ih =>
    intro listed env I Hs Ha hd hf hr hl H
    refine ⟨fun h => (by rw [h] at hr; cases hr), fun j hj => ?_⟩
    by_cases hji : j = i
    · subst hji; exact H
    · obtain ⟨hjun, oj, hoj, hall⟩ := mem_ready.1 hj
      have hnb : ¬ Bef ops i j := fun hb => by
        have := hb.notReady hd hj
        rw [getD_tf (mem_ready.1 hr).1] at this; cases this
      obtain ⟨hcm, hap⟩ := hf j oj hoj hji hjun hnb
      obtain ⟨a1, a2, a3⟩ := Oper.apart_spec hap
      have H1 : StepXG P ops (fl i) oi env I Hs Ha (fun v I Hs Ha => StepXG P ops (fl j) oj env I Hs Ha (fun u => WA P ops fl KF n ((listed.setIfInBounds i true).setIfInBounds j true) (putE (putE env oi.dst v) oj.dst u))) := by
        unfold stepI at H
        simp only [hi] at H
        refine StepXG.monoE H hl fun v I' Hs' Ha' _ _ hk => ?_
        have := hk.2 j (ready_mono hj hji)
        unfold stepI at this
        simp only [hoj] at this
        exact (StepXG.put (hcl j oj hoj) a1).1 this
      have H2 := swapXG (K := fun v u => WA P ops fl KF n ((listed.setIfInBounds i true).setIfInBounds j true) (putE (putE env oi.dst v) oj.dst u)) hcm hl H1
      unfold stepI
      simp only [hoj]
      refine StepXG.monoE H2 hl fun u I' Hs' Ha' _ hl' hk => ?_
      refine ih (listed.setIfInBounds j true) _ I' Hs' Ha' (hd.step hj) (hf.step j) (ready_mono hr (Ne.symm hji)) hl' ?_
      unfold stepI
      simp only [hi]
      refine (StepXG.put (hcl i oi hi) a3).2 ?_
      refine StepXG.monoE hk hl' fun v I'' Hs'' Ha'' _ _ hk' => ?_
      rw [putE_comm env u v (fun d h1 h2 => a2 d h2 h1), Array.setIfInBounds_comm _ _ (Ne.symm hji)] at *
      exact hk'

/-- In the order of a list. -/
def WX (P : Program) (ops : Array Oper) (fl : Nat → Bool) (KF : Env → Imm → PH → PH → Prop) : List Nat → Env → Imm → PH → PH → Prop
  | [] => KF
  | i :: r => fun env I Hs Ha => stepI P ops fl i env I Hs Ha (WX P ops fl KF r)

def addMask (acc : List Nat) (o : Oper) : Nat :=
  o.after.toList.foldl (fun s e => cond (Region.binds .any e) (s ||| (1 <<< e.on) ||| acc.getD e.on 0) s) 0
def masks : List Oper → List Nat → List Nat
  | [], acc => acc
  | o :: r, acc => masks r (acc ++ [addMask acc o])
def allN (f : Nat → Bool) : Nat → Bool
  | 0 => true
  | n + 1 => cond (f n) (allN f n) false
def okPair (ops : Array Oper) (ms : List Nat) (i j : Nat) : Bool :=
  Nat.testBit (ms.getD j 0) i || Nat.testBit (ms.getD i 0) j || Nat.beq i j ||
  match ops[i]?, ops[j]? with
  | some oi, some oj => oi.apart ops oj
  | _, _ => false
def okFrom (ops : Array Oper) (cs ms : List Nat) (n : Nat) : List Nat → Nat → Bool
  | [], l => Nat.beq l (2 ^ n - 1)
  | i :: r, l => Nat.blt i n && !Nat.testBit l i && Nat.beq (ms.getD i 0 &&& l) (ms.getD i 0) &&
      allN (fun j => Nat.beq j i || Nat.testBit l j || Nat.testBit (ms.getD j 0) i || compat (cs.getD i 4) (cs.getD j 4)) n && okFrom ops cs ms n r (l ||| (1 <<< i))
def idx (i : Nat) : Nat := cond (Nat.blt i 1000) i (i - 1000)
def hasN (x : Nat) : List Nat → Bool
  | [] => false
  | y :: l => cond (Nat.beq x y) true (hasN x l)
def flag (ord : List Nat) (i : Nat) : Bool := hasN (i + 1000) ord
def clsL (ord : List Nat) : List Oper → Nat → List Nat
  | [], _ => []
  | o :: r, k => clsF (flag ord k) o.op :: clsL ord r (k + 1)
def okOrd (ops : Array Oper) (ord : List Nat) : Bool :=
  let n := ops.size
  let ms := masks ops.toList []
  let cs := clsL ord ops.toList 0
  Nat.beq ord.length n && allN (fun i => !Nat.beq (cs.getD i 4) 4) n && allN (fun i => allN (fun j => okPair ops ms i j) n) n && okFrom ops cs ms n (ord.map idx) 0

theorem allN_spec {f : Nat → Bool} : ∀ {n : Nat}, allN f n = true → ∀ i, i < n → f i = true
  | 0, _, i, h => absurd h (Nat.not_lt_zero i)
  | n + 1, h, i, hi => by
    simp only [allN] at h
    cases hf : f n with
    | false => rw [hf] at h; cases h
    | true =>
      rw [hf] at h
      by_cases e : i = n
      · subst e; exact hf
      · exact allN_spec h i (by omega)

theorem addMask_spec {acc : List Nat} {o : Oper} {j : Nat} (ho : ops[j]? = some o) (hacc : ∀ k i, Nat.testBit (acc.getD k 0) i = true → Bef ops i k) :
    (∀ i, Nat.testBit (addMask acc o) i = true → Bef ops i j) ∧ ∀ e ∈ o.after, Region.binds .any e = true → Nat.testBit (addMask acc o) e.on = true := by
  have key : ∀ (l : List Edge) (s : Nat), (∀ e ∈ l, e ∈ o.after) → (∀ i, Nat.testBit s i = true → Bef ops i j) →
      (∀ i, Nat.testBit (l.foldl (fun s e => cond (Region.binds .any e) (s ||| (1 <<< e.on) ||| acc.getD e.on 0) s) s) i = true → Bef ops i j) ∧
      (∀ i, Nat.testBit s i = true → Nat.testBit (l.foldl (fun s e => cond (Region.binds .any e) (s ||| (1 <<< e.on) ||| acc.getD e.on 0) s) s) i = true) ∧
      ∀ e ∈ l, Region.binds .any e = true → Nat.testBit (l.foldl (fun s e => cond (Region.binds .any e) (s ||| (1 <<< e.on) ||| acc.getD e.on 0) s) s) e.on = true := by
    intro l
    induction l with
    | nil => intro s _ hs; exact ⟨hs, fun _ h => h, fun e he => by cases he⟩
    | cons e l ih =>
      intro s hm hs
      simp only [List.foldl_cons]
      cases hb : Region.binds .any e with
      | false =>
        simp only [cond_false]
        obtain ⟨h1, h2, h3⟩ := ih s (fun e' h => hm e' (.tail _ h)) hs
        exact ⟨h1, h2, fun e' he' hb' => by
          cases he' with
          | head => rw [hb] at hb'; cases hb'
          | tail _ h => exact h3 e' h hb'⟩
      | true =>
        simp only [cond_true]
        have hs' : ∀ i, Nat.testBit (s ||| (1 <<< e.on) ||| acc.getD e.on 0) i = true → Bef ops i j := by
          intro i hi
          rw [Nat.testBit_or, Nat.testBit_or, Nat.one_shiftLeft, Nat.testBit_two_pow] at hi
          simp only [Bool.or_eq_true, decide_eq_true_eq] at hi
          rcases hi with (hi | hi) | hi
          · exact hs i hi
          · exact .one ho (hm e (.head _)) hb hi
          · exact .more ho (hm e (.head _)) hb (hacc _ _ hi)
        obtain ⟨h1, h2, h3⟩ := ih _ (fun e' h => hm e' (.tail _ h)) hs'
        refine ⟨h1, fun i hi => h2 i ?_, fun e' he' hb' => ?_⟩
        · rw [Nat.testBit_or, Nat.testBit_or, hi]; rfl
        · cases he' with
          | head => exact h2 _ (by rw [Nat.testBit_or, Nat.testBit_or, Nat.one_shiftLeft, Nat.testBit_two_pow]; simp)
          | tail _ h => exact h3 e' h hb'
  obtain ⟨h1, _, h3⟩ := key o.after.toList 0 (fun e h => Array.mem_toList_iff.1 h) (fun i h => by simp at h)
  exact ⟨h1, fun e he hb => h3 e (Array.mem_toList_iff.2 he) hb⟩

theorem masks_spec : ∀ (rest : List Oper) (acc : List Nat) (k : Nat), acc.length = k → ops.toList.drop k = rest →
    (∀ j i, Nat.testBit (acc.getD j 0) i = true → Bef ops i j) → (∀ (j : Nat) oj, j < k → ops[j]? = some oj → ∀ e ∈ oj.after, Region.binds .any e = true → Nat.testBit (acc.getD j 0) e.on = true) →
    (∀ j i, Nat.testBit ((masks rest acc).getD j 0) i = true → Bef ops i j) ∧
    ∀ (j : Nat) oj, ops[j]? = some oj → ∀ e ∈ oj.after, Region.binds .any e = true → Nat.testBit ((masks rest acc).getD j 0) e.on = true := by
  intro rest
  induction rest with
  | nil =>
    intro acc k hk hd h1 h2
    refine ⟨h1, fun j oj ho => h2 j oj ?_ ho⟩
    have hlt : j < ops.size := (Array.getElem?_eq_some_iff.1 ho).1
    have := congrArg List.length hd
    simp at this; omega
  | cons o rest ih =>
    intro acc k hk hd h1 h2
    have ho : ops[k]? = some o := by
      have : (ops.toList.drop k)[0]? = some o := by rw [hd]; rfl
      rw [List.getElem?_drop] at this
      simpa using this
    obtain ⟨a1, a2⟩ := addMask_spec ho h1
    have hg : ∀ j, (acc ++ [addMask acc o]).getD j 0 = if j < k then acc.getD j 0 else if j = k then addMask acc o else 0 := by
      intro j
      simp only [List.getD_eq_getElem?_getD]
      by_cases c : j < k
      · rw [if_pos c, List.getElem?_append_left (by omega)]
      · rw [if_neg c, List.getElem?_append_right (by omega)]
        by_cases e : j = k
        · subst e; simp [hk]
        · rw [if_neg e, List.getElem?_eq_none (by simp; omega)]; rfl
    refine ih (acc ++ [addMask acc o]) (k + 1) (by simp [hk]) (by rw [← List.drop_drop, hd]; rfl) ?_ ?_
    · intro j i hi
      rw [hg] at hi
      split at hi
      · exact h1 j i hi
      · split at hi
        · rename_i e; subst e; exact a1 i hi
        · simp at hi
    · intro j oj hj hoj e he hb
      rw [hg]
      by_cases c : j < k
      · rw [if_pos c]; exact h2 j oj c hoj e he hb
      · have e' : j = k := by omega
        subst e'
        rw [if_neg c, if_pos rfl]
        rw [ho] at hoj; cases hoj
        exact a2 e he hb

theorem okFrom_spec {fl : Nat → Bool} {cs ms : List Nat} {KF : Env → Imm → PH → PH → Prop} (hcs : ∀ (j : Nat) oj, ops[j]? = some oj → cs.getD j 4 = clsF (fl j) oj.op)
    (hcl : ∀ (j : Nat) oj, ops[j]? = some oj → cls oj.op ≠ 4)
    (hap : ∀ (i j : Nat) oi oj, ops[i]? = some oi → ops[j]? = some oj → i ≠ j → ¬ Nat.testBit (ms.getD j 0) i = true → ¬ Nat.testBit (ms.getD i 0) j = true → oi.apart ops oj = true)
    (m1 : ∀ j i, Nat.testBit (ms.getD j 0) i = true → Bef ops i j)
    (m2 : ∀ (j : Nat) oj, ops[j]? = some oj → ∀ e ∈ oj.after, Region.binds .any e = true → Nat.testBit (ms.getD j 0) e.on = true) :
    ∀ (r : List Nat) (l : Nat) (listed : Array Bool) (env : Env) (I : Imm) (Hs Ha : PH), okFrom ops cs ms ops.size r l = true → listed.size = ops.size →
      (∀ j, Nat.testBit l j = listed.getD j false) → DC ops listed → Live I Hs Ha → WX P ops fl KF r env I Hs Ha → WA P ops fl KF r.length listed env I Hs Ha := by
  intro r
  induction r with
  | nil =>
    intro l listed env I Hs Ha hok hsz hbit hd hl h
    have : Region.ready .any ops listed = [] := by
      simp only [okFrom, Nat.beq_eq] at hok
      cases hr : Region.ready .any ops listed with
      | nil => rfl
      | cons j js =>
        exfalso
        have hj : j ∈ Region.ready .any ops listed := by rw [hr]; exact .head _
        obtain ⟨h0, oj, hoj, _⟩ := mem_ready.1 hj
        have hlt : j < ops.size := (Array.getElem?_eq_some_iff.1 hoj).1
        have h1 := hbit j
        rw [hok, Nat.testBit_two_pow_sub_one, getD_tf h0] at h1
        simp [hlt] at h1
    exact ⟨this, h⟩
  | cons i r ih =>
    intro l listed env I Hs Ha hok hsz hbit hd hl h
    simp only [okFrom, Bool.and_eq_true, Bool.not_eq_true', Nat.blt_eq, Nat.beq_eq] at hok
    obtain ⟨⟨⟨⟨hin, hli⟩, hm⟩, hall⟩, hrest⟩ := hok
    have hall := allN_spec hall
    obtain ⟨oi, hoi⟩ : ∃ oi, ops[i]? = some oi := ⟨ops[i], by simp [hin]⟩
    have hbi := hbit i
    rw [hli] at hbi
    have hun : listed.getD i true = false := by
      have : i < listed.size := by omega
      simp [this] at hbi ⊢; exact hbi
    have hr : i ∈ Region.ready .any ops listed := by
      refine mem_ready.2 ⟨hun, oi, hoi, fun e he hb => ?_⟩
      rw [← hbit]
      have h1 := m2 i oi hoi e he hb
      rw [← hm, Nat.testBit_and] at h1
      simp at h1; exact h1.2
    refine WA.first hoi hcl r.length listed env I Hs Ha hd ?_ hr hl ?_
    · intro j oj hoj hji hjun hnb
      have hlt : j < ops.size := (Array.getElem?_eq_some_iff.1 hoj).1
      have h1 := hall j hlt
      simp only [Bool.or_eq_true, Nat.beq_eq] at h1
      have nb1 : ¬ Nat.testBit (ms.getD j 0) i = true := fun h => hnb (m1 j i h)
      have nb2 : ¬ Nat.testBit (ms.getD i 0) j = true := fun h => by
        rw [← hm, Nat.testBit_and, hbit j, getD_tf hjun] at h; simp at h
      rcases h1 with ((h1 | h1) | h1) | h1
      · exact absurd h1 hji
      · rw [hbit j, getD_tf hjun] at h1; cases h1
      · exact absurd h1 nb1
      · rw [hcs i oi hoi, hcs j oj hoj] at h1
        exact ⟨h1, hap i j oi oj hoi hoj (Ne.symm hji) nb1 nb2⟩
    · refine stepI.mono h hl fun env' I' Hs' Ha' _ hl' hk => ?_
      refine ih (l ||| (1 <<< i)) (listed.setIfInBounds i true) env' I' Hs' Ha' hrest (by simpa using hsz) ?_ (hd.step hr) hl' hk
      intro j
      rw [Nat.testBit_or, Nat.one_shiftLeft, Nat.testBit_two_pow, hbit j]
      by_cases e : i = j
      · subst e
        have : i < listed.size := by omega
        simp [this]
      · rw [getD_set_ne false e]; simp [e]

theorem clsL_get {ord : List Nat} : ∀ (l : List Oper) (k j : Nat) (o : Oper), l[j]? = some o → (clsL ord l k).getD j 4 = clsF (flag ord (k + j)) o.op
  | [], _, _, _, h => by simp at h
  | x :: l, k, 0, o, h => by simp at h; subst h; rfl
  | x :: l, k, j + 1, o, h => by
    have := clsL_get (ord := ord) l (k + 1) j o (by simpa using h)
    simp only [clsL, List.getD_cons_succ]
    rw [this]; congr 2; omega
theorem okOrd_spec {ord : List Nat} {KF : Env → Imm → PH → PH → Prop} (hok : okOrd ops ord = true) {env : Env} {I : Imm} {Hs Ha : PH} (hl : Live I Hs Ha)
    (h : WX P ops (flag ord) KF (ord.map idx) env I Hs Ha) : WA P ops (flag ord) KF ops.size (Array.replicate ops.size false) env I Hs Ha := by
  simp only [okOrd, Bool.and_eq_true, Nat.beq_eq] at hok
  obtain ⟨⟨⟨hlen, hc⟩, hp⟩, hf⟩ := hok
  have hc := allN_spec hc
  have hp := allN_spec hp
  have hcs : ∀ (j : Nat) oj, ops[j]? = some oj → (clsL ord ops.toList 0).getD j 4 = clsF (flag ord j) oj.op := by
    intro j oj ho
    have := clsL_get (ord := ord) ops.toList 0 j oj (by simpa using ho)
    rw [this]; congr 2; omega
  obtain ⟨m1, m2⟩ := masks_spec (ops := ops) ops.toList [] 0 rfl rfl (fun j i h => by simp at h) (fun j _ hj => by omega)
  have hlen' : (ord.map idx).length = ops.size := by simp [hlen]
  rw [← hlen']
  refine okFrom_spec hcs ?_ ?_ m1 m2 (ord.map idx) 0 _ env I Hs Ha hf (by simp [hlen]) ?_ ?_ hl h
  · intro j oj ho
    have := hc j (Array.getElem?_eq_some_iff.1 ho).1
    rw [hcs j oj ho] at this
    intro e; rw [clsF_four.2 e] at this; cases this
  · intro i j oi oj hoi hoj hne n1 n2
    have := allN_spec (hp i (Array.getElem?_eq_some_iff.1 hoi).1) j (Array.getElem?_eq_some_iff.1 hoj).1
    simp only [okPair, hoi, hoj, Bool.or_eq_true, Nat.beq_eq] at this
    rcases this with ((h | h) | h) | h
    · exact absurd h n1
    · exact absurd h n2
    · exact absurd h hne
    · exact h
  · intro j
    have : (Array.replicate (ord.map idx).length false)[j]?.getD false = false := by
      by_cases c : j < (ord.map idx).length <;> simp at c <;> simp [c]
    simpa using this
  · intro j oj ho hl'
    have : (Array.replicate (ord.map idx).length false)[j]?.getD false = false := by
      by_cases c : j < (ord.map idx).length <;> simp at c <;> simp [c]
    simp only [Array.getD_eq_getD_getElem?, this] at hl'
    cases hl'

end Go.Proofs.Ytibgbapeblicjaa
