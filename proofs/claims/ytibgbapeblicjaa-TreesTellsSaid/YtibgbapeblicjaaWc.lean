/- The calculus over whole functions: what is to be shown of a function's code, and that the model's call follows from it. -/
import Derived.Test.YtibgbapeblicjaaWb
set_option linter.unusedVariables false
namespace Go.Proofs.Ytibgbapeblicjaa
open Go
variable {P : Program} {ops : Array Oper}

theorem envOf_put {a : Act} {dst : Option Tmp} {v : Value} (h : ∀ d, dst = some d → d < a.tmps.size) : Act.envOf (a.put dst v) = putE (Act.envOf a) dst v := by
  cases dst with
  | none => rfl
  | some d =>
    have hd := h d rfl
    funext i
    simp only [Act.envOf, Act.put, putE]
    by_cases e : i = d
    · subst e; simp [hd]
    · have : Nat.beq i d = false := by rw [← Bool.not_eq_true, Nat.beq_eq]; exact e
      simp [this, Array.getElem?_setIfInBounds_ne (Ne.symm e)]
theorem put_size (a : Act) (dst : Option Tmp) (v : Value) : (a.put dst v).tmps.size = a.tmps.size := by cases dst <;> simp [Act.put]
theorem put_defers (a : Act) (dst : Option Tmp) (v : Value) : (a.put dst v).defers = a.defers := by cases dst <;> simp [Act.put]

/-- What an activation keeps: its size, its deferred calls, the slots outside a set. -/
structure Frm (S : Nat → Prop) (a a' : Act) : Prop where
  size : a'.tmps.size = a.tmps.size
  defers : a'.defers = a.defers
  same : ∀ i, ¬ S i → Act.envOf a' i = Act.envOf a i
theorem Frm.refl (S : Nat → Prop) (a : Act) : Frm S a a := ⟨rfl, rfl, fun _ _ => rfl⟩
theorem Frm.trans {S : Nat → Prop} {a b c : Act} (h : Frm S a b) (k : Frm S b c) : Frm S a c :=
  ⟨k.size.trans h.size, k.defers.trans h.defers, fun i hi => (k.same i hi).trans (h.same i hi)⟩
theorem Frm.mono {S T : Nat → Prop} {a b : Act} (h : Frm S a b) (hs : ∀ i, S i → T i) : Frm T a b :=
  ⟨h.size, h.defers, fun i hi => h.same i fun x => hi (hs i x)⟩
theorem Frm.put {S : Nat → Prop} (a : Act) {dst : Option Tmp} (v : Value) (hs : ∀ d, dst = some d → S d) (hf : ∀ d, dst = some d → d < a.tmps.size) : Frm S a (a.put dst v) := by
  refine ⟨put_size a dst v, put_defers a dst v, fun i hi => ?_⟩
  rw [envOf_put hf]
  cases dst with
  | none => rfl
  | some d =>
    have : Nat.beq i d = false := by rw [← Bool.not_eq_true, Nat.beq_eq]; exact fun e => hi (e ▸ hs d rfl)
    simp [putE, this]

theorem envOf_bool {a : Act} {t : Nat} {b : Bool} (h : Act.envOf a t = .bool b) : a.tmps[t]? = some (.bool b) := by
  simp only [Act.envOf, Array.getD_eq_getD_getElem?] at h
  cases e : a.tmps[t]? with
  | none => rw [e] at h; cases h
  | some v => rw [e] at h; simp at h; rw [h]

theorem wanted_of_gd {o : Oper} {a : Act} {b : Bool} (h : gd ops o (Act.envOf a) = some b) : Region.wanted o (yielded ops a.tmps) = b := by
  unfold gd at h
  unfold Region.wanted
  cases hg : o.guard with
  | none => simp only [hg] at h; cases h; rfl
  | some gw =>
    obtain ⟨g, want⟩ := gw
    simp only [hg] at h
    cases ht : (ops[g]?).bind (·.dst) with
    | none => simp only [ht] at h; cases h
    | some t =>
      simp only [ht] at h
      cases hv : Act.envOf a t with
      | bool c =>
        simp only [hv, Option.some.injEq] at h
        have : yielded ops a.tmps g = some c := by simp only [yielded, ht, Option.bind_some, envOf_bool hv]
        simp only [this]
        rw [← h]
        cases c <;> cases want <;> rfl
      | tuple vs =>
        simp only [hv, Option.some.injEq] at h
        have : yielded ops a.tmps g = none := by
          simp only [Act.envOf, Array.getD_eq_getD_getElem?] at hv
          cases e : a.tmps[t]? with
          | none => simp [yielded, ht, e]
          | some x => rw [e] at hv; simp at hv; subst hv; simp [yielded, ht, e]
        simp only [this]
        rw [← h]; rfl
      | _ => rw [hv] at h; cases h

def DstIn (ops : Array Oper) (i : Nat) : Prop := ∃ o ∈ ops.toList, o.dst = some i
def Fits (ops : Array Oper) (n : Nat) : Prop := ∀ o ∈ ops.toList, ∀ d, o.dst = some d → d < n

theorem upon_outc {o : Oper} {a : Act} {next : Act → World → Prop} {Q : Exit → Act → World → Prop} {I : Imm} {K : KV} {r : Result Next} (h : Outc P I K r)
    (hn : ∀ v w' I' H', I.le I' → Sat I' H' w' → K v I' H' → next (a.put o.dst v) w') : o.upon P a next Q r := by
  cases r with
  | halt x w => exact h.elim
  | ok n w =>
    cases n
    case value v => obtain ⟨I', H', h1, h2, h3⟩ := h; exact hn v w I' H' h1 h2 h3
    case skip => obtain ⟨I', H', h1, h2, h3⟩ := h; exact hn _ w I' H' h1 h2 h3
    case enter f args =>
      refine Calls.mono h fun e w' he => ?_
      cases e with
      | returned v => obtain ⟨I', H', h1, h2, h3⟩ := he; exact hn v w' I' H' h1 h2 h3
      | panicked c => exact he.elim
      | outgrown => exact he.elim
    all_goals exact h.elim

theorem upon_outcQ {o : Oper} {a : Act} {next : Act → World → Prop} {Q : Exit → Act → World → Prop} {I : Imm} {Hs : PH} {R : Value → Imm → PH → Prop} {r : Result Next} (h : OutcQ P I Hs R r)
    (hn : ∀ v w' I' Ha', I.le I' → Disj I' Hs Ha' → Sat I' (join Hs Ha') w' → R v I' Ha' → next (a.put o.dst v) w') : o.upon P a next Q r := by
  cases r with
  | halt x w => exact h.elim
  | ok n w =>
    cases n
    case value v => obtain ⟨I', H', h1, h2, h3, h4⟩ := h; exact hn v w I' H' h1 h2 h3 h4
    case skip => obtain ⟨I', H', h1, h2, h3, h4⟩ := h; exact hn _ w I' H' h1 h2 h3 h4
    case enter f args =>
      refine Calls.mono h fun e w' he => ?_
      cases e with
      | returned v => obtain ⟨I', H', h1, h2, h3, h4⟩ := he; exact hn v w' I' H' h1 h2 h3 h4
      | panicked c => exact he.elim
      | outgrown => exact he.elim
    all_goals exact h.elim

theorem StepX.upon {fl : Bool} {o : Oper} {a : Act} {I : Imm} {Hs Ha : PH} {K : KD} {w : World} {next : Act → World → Prop} {Q : Exit → Act → World → Prop}
    (h : StepX P fl o (Act.envOf a) I Hs Ha K) (hd : Disj I Hs Ha) (hw : Sat I (join Hs Ha) w)
    (hn : ∀ v w' I' Hs' Ha', I.le I' → Disj I' Hs' Ha' → Sat I' (join Hs' Ha') w' → K v I' Hs' Ha' → next (a.put o.dst v) w') : o.upon P a next Q ((execOp a.eval o).run P w) := by
  rw [← ev_act']
  unfold StepX at h
  split at h
  · obtain ⟨v, hr, h⟩ := h; rw [hr w]; exact hn _ _ _ _ _ (.refl I) hd hw h
  · obtain ⟨v, hr, h⟩ := h; rw [hr w (join_sat hw hd)]; exact hn _ _ _ _ _ (.refl I) hd hw h
  · obtain ⟨f, ob, hr, h⟩ := h
    rw [hr w]
    obtain ⟨h1, h2, h3⟩ := Live.alloc hd hw ob
    refine hn _ _ _ _ _ (.refl I) h2 ?_ (h _ h1 ⟨h2, h3⟩)
    rw [join_upd_left (hd.alloc ob hw.fresh.1 ?_ |>.2 _ _ (upd_same _ _ _))]
    · exact hw.alloc ob
    · have f2 := hw.fresh.2
      simp only [join] at f2; cases e : Ha w.heap.size with
      | none => rfl
      | some o => rw [e] at f2; cases f2
  · obtain ⟨R, hr, h⟩ := h
    exact upon_outcQ (hr Hs w (.refl _) hd hw) fun v w' I' Ha' h1 h2 h3 h4 => hn _ _ _ _ _ h1 h2 h3 (h v I' Ha' h1 ⟨h2, w', h3⟩ h4)
  · obtain ⟨v, hr, h⟩ := h; rw [hr w hw]; exact hn _ _ _ _ _ (.refl I) hd hw h
  · obtain ⟨R, hr, h⟩ := h
    exact upon_outcQ (hr Hs w (.refl _) hd hw) fun v w' I' Ha' h1 h2 h3 ⟨h4, h5⟩ => by subst h4; exact hn _ _ _ _ _ h1 h2 h3 (h v I' h1 ⟨h2, w', h3⟩ h5)
  · exact h.elim

theorem WA.sound {fl : Nat → Bool} {KF : Env → Imm → PH → PH → Prop} {Q : Exit → Act → World → Prop} {a0 : Act} {I0 : Imm} (hf : Fits ops a0.tmps.size)
    (hQ : ∀ a w I Hs Ha, Frm (DstIn ops) a0 a → I0.le I → Disj I Hs Ha → Sat I (join Hs Ha) w → KF (Act.envOf a) I Hs Ha → Q .normal a w) :
    ∀ (n : Nat) (listed : Array Bool) (a : Act) (w : World) (I : Imm) (Hs Ha : PH), Frm (DstIn ops) a0 a → I0.le I → Disj I Hs Ha → Sat I (join Hs Ha) w →
      WA P ops fl KF n listed (Act.envOf a) I Hs Ha → wpAny P .any ops Q n listed a w := by
  intro n
  induction n with
  | zero => exact fun listed a w I Hs Ha hfr hl hd hw h => ⟨h.1, hQ a w I Hs Ha hfr hl hd hw h.2⟩
  | succ n ih =>
    intro listed a w I Hs Ha hfr hl hd hw h
    refine ⟨fun hr => hQ a w I Hs Ha hfr hl hd hw (h.1 hr), fun i hi => ?_⟩
    have hs := h.2 i hi
    unfold stepI at hs
    unfold wpOp
    obtain ⟨_, o, ho, _⟩ := mem_ready.1 hi
    simp only [ho] at hs ⊢
    have hmem : o ∈ ops.toList := Array.mem_toList_iff.2 (Array.mem_of_getElem? ho)
    have hfit : ∀ d, o.dst = some d → d < a.tmps.size := fun d hd => by rw [hfr.size]; exact hf o hmem d hd
    have hst : ∀ v w' I' Hs' Ha', I.le I' → Disj I' Hs' Ha' → Sat I' (join Hs' Ha') w' → WA P ops fl KF n (listed.setIfInBounds i true) (putE (Act.envOf a) o.dst v) I' Hs' Ha' →
        wpAny P .any ops Q n (listed.setIfInBounds i true) (a.put o.dst v) w' := by
      intro v w' I' Hs' Ha' h1 h2 h3 h4
      refine ih _ _ _ I' Hs' Ha' (hfr.trans (Frm.put a v (fun d hd => ⟨o, hmem, hd⟩) hfit)) (hl.trans h1) h2 h3 ?_
      rw [envOf_put hfit]; exact h4
    unfold StepXG at hs
    cases hg : gd ops o (Act.envOf a) with
    | none => simp only [hg] at hs
    | some b =>
      rw [wanted_of_gd hg]
      cases b with
      | true =>
        simp only [hg] at hs
        simp only [if_true]
        exact .inl (StepX.upon hs hd hw hst)
      | false =>
        simp only [hg] at hs
        simp only [Bool.false_eq_true, if_false]
        exact hst _ _ _ _ _ (.refl I) hd hw hs

/-! ### The steps of a region that draws, as they are written -/
def wMakeD (P : Program) (s : Sem Value) (I : Imm) (Hs Ha : PH) (K : Value → PH → Prop) : Prop :=
  ∃ (f : Nat → Value) (o : Obj), (∀ w, s.run P w = .ok (f w.heap.size) (w.alloc o)) ∧ ∀ b, I.blk b = none → Hs b = none → Ha b = none → K (f b) (upd Hs b o)
def wActQ (P : Program) {α : Type} (s : Sem α) (I : Imm) (Hs Ha : PH) (K : α → Imm → PH → Prop) : Prop :=
  ∃ R : α → Imm → PH → Prop, (∀ Hs' w, Sub Hs Hs' → Disj I Hs' Ha → Sat I (join Hs' Ha) w → ∃ v w' I' Ha', s.run P w = .ok v w' ∧ I.le I' ∧ Disj I' Hs' Ha' ∧ Sat I' (join Hs' Ha') w' ∧ R v I' Ha') ∧
    ∀ v I' Ha', I.le I' → Disj I' Hs Ha' → R v I' Ha' → K v I' Ha'
def CallQ (P : Program) (f : FuncId) (args : List Value) (I : Imm) (Hs Ha : PH) (R : Value → Imm → PH → Prop) : Prop :=
  ∀ Hs' w, Sub Hs Hs' → Disj I Hs' Ha → Sat I (join Hs' Ha) w → UponCall P ((callFunc f args.toArray).run P w) (AfterQ I Hs' R)
def wCallQ (P : Program) (fv : Value) (args : List Value) (I : Imm) (Hs Ha : PH) (K : Value → Imm → PH → Prop) : Prop :=
  ∃ f first cap, fv = .func (.func f) first cap ∧ ∃ R : Value → Imm → PH → Prop, CallQ P f (first.toList ++ args ++ cap.toList) I Hs Ha R ∧
    ∀ v I' Ha', I.le I' → Disj I' Hs Ha' → R v I' Ha' → K v I' Ha'
/-- A call by a contract that leaves the call's own part alone: reads may stand on either side. -/
def wCallN (P : Program) (fv : Value) (args : List Value) (I : Imm) (Hs Ha : PH) (K : Value → Imm → Prop) : Prop :=
  ∃ f first cap, fv = .func (.func f) first cap ∧ ∃ R : Value → Imm → Prop, CallQ P f (first.toList ++ args ++ cap.toList) I Hs Ha (fun v I' Ha' => Ha' = Ha ∧ R v I') ∧
    ∀ v I', I.le I' → Disj I' Hs Ha → R v I' → K v I'
def wBuiltinD (P : Program) (fl : Bool) (b : Builtin) (ts : Array TypeId) (ty : TypeId) (args : List Value) (I : Imm) (Hs Ha : PH) (K : KD) : Prop :=
  match b with
  | .len => wRead P (Builtin.len_ ts ty args.toArray) I (cond fl (join Hs Ha) Hs) (fun v => K v I Hs Ha)
  | .cap => wRead P (Builtin.cap_ ts ty args.toArray) I (cond fl (join Hs Ha) Hs) (fun v => K v I Hs Ha)
  | .min => wRead P (Builtin.min_ ts ty args.toArray) I (cond fl (join Hs Ha) Hs) (fun v => K v I Hs Ha)
  | .max => wRead P (Builtin.max_ ts ty args.toArray) I (cond fl (join Hs Ha) Hs) (fun v => K v I Hs Ha)
  | .append => cond fl False (wActQ P (Builtin.append_ ts ty args.toArray) I Hs Ha (fun v I Ha => K v I Hs Ha))
  | .copy => cond fl False (wActQ P (Builtin.copy_ ts ty args.toArray) I Hs Ha (fun v I Ha => K v I Hs Ha))
  | .delete => cond fl False (wActQ P (Builtin.delete_ ts ty args.toArray) I Hs Ha (fun v I Ha => K v I Hs Ha))
  | .clear => cond fl False (wActQ P (Builtin.clear_ ts ty args.toArray) I Hs Ha (fun v I Ha => K v I Hs Ha))
  | _ => False
def StepD (P : Program) (fl : Bool) (o : Oper) (env : Env) (I : Imm) (Hs Ha : PH) (K : KD) : Prop :=
  match o.op with
  | .move x => K (ev env x) I Hs Ha
  | .assign x => K (ev env x) I Hs Ha
  | .makeFunc fn first captured => K (.func fn (opsV env first).toArray (opsV env captured).toArray) I Hs Ha
  | .alloc t => wMakeD P (Instr.alloc t true (.tuple #[])) I Hs Ha (fun v Hs => K v I Hs Ha)
  | .box t x => wMakeD P (Instr.box t (ev env x)) I Hs Ha (fun v Hs => K v I Hs Ha)
  | .buildSlice t n parts => wMakeD P (Instr.buildSlice t n (ops2 env parts).toArray) I Hs Ha (fun v Hs => K v I Hs Ha)
  | .makeMap t none => wMakeD P (Instr.makeMap t none) I Hs Ha (fun v Hs => K v I Hs Ha)
  | .pick c a b => wPure P (semPick (ev env c) (ev env a) (ev env b)) (fun v => K v I Hs Ha)
  | .build t parts => wPure P (Instr.build t (ops2 env parts).toArray) (fun v => K v I Hs Ha)
  | .load t a => wRead P (Instr.loadAt t (ev env a)) I (cond fl (join Hs Ha) Hs) (fun v => K v I Hs Ha)
  | .nilCheck x => wPure P (semNil (ev env x)) (fun v => K v I Hs Ha)
  | .binOp op t x y _ => wPure P (semBin op t (isC x) (isC y) (ev env x) (ev env y)) (fun v => K v I Hs Ha)
  | .unOp op _ x => wPure P (Op.unary op (ev env x)) (fun v => K v I Hs Ha)
  | .convert s d x => wPure P (convert s d (ev env x)) (fun v => K v I Hs Ha)
  | .makeInterface t x => wPure P (Instr.makeInterface t (ev env x)) (fun v => K v I Hs Ha)
  | .slice t x lo hi mx => wPure P (Instr.sliceAt t (ev env x) (lo.map (ev env)) (hi.map (ev env)) (mx.map (ev env))) (fun v => K v I Hs Ha)
  | .fieldAddr t x f => wPure P (Instr.fieldAt t (ev env x) f) (fun v => K v I Hs Ha)
  | .field t x f => wPure P (Instr.field t (ev env x) f) (fun v => K v I Hs Ha)
  | .indexAddr t x i => wPure P (Instr.indexAt t (ev env x) (ev env i)) (fun v => K v I Hs Ha)
  | .index t x i => wPure P (Instr.index t (ev env x) (ev env i)) (fun v => K v I Hs Ha)
  | .lookup t x i ok => wRead P (Instr.lookup t (ev env x) (ev env i) ok) I (cond fl (join Hs Ha) Hs) (fun v => K v I Hs Ha)
  | .typeAssert x t a ok => wPure P (Instr.typeAssert (ev env x) t a ok) (fun v => K v I Hs Ha)
  | .extract t i => wPure P (Instr.extract (ev env t) i) (fun v => K v I Hs Ha)
  | .store t a x => cond fl False (wActQ P (Instr.storeAt t (ev env a) (ev env x)) I Hs Ha (fun _ I Ha => K undef I Hs Ha))
  | .mapUpdate t m k x => cond fl False (wActQ P (Instr.mapUpdate t (ev env m) (ev env k) (ev env x)) I Hs Ha (fun _ I Ha => K undef I Hs Ha))
  | .call c =>
    match c.callee with
    | .value f => cond fl (wCallN P (ev env f) (opsV env c.args) I Hs Ha (fun v I => K v I Hs Ha)) (wCallQ P (ev env f) (opsV env c.args) I Hs Ha (fun v I Ha => K v I Hs Ha))
    | .builtin b => wBuiltinD P fl b c.argTypes o.type (opsV env c.args) I Hs Ha K
    | .invoke _ _ => False
  | _ => False
def wGuardD (g : Value) (want : Bool) (F : KD → Prop) (K : KD) (I : Imm) (Hs Ha : PH) : Prop :=
  (∃ b, g = .bool b ∧ (b = want → F K) ∧ (b = !want → K undef I Hs Ha)) ∨ (g = undef ∧ K undef I Hs Ha)
def wIn (I : Imm) (H : PH) (F : Imm → PH → Prop) : Prop := F I H
def StepDG (P : Program) (ops : Array Oper) (fl : Bool) (o : Oper) (env : Env) (I : Imm) (Hs Ha : PH) (K : KD) : Prop :=
  match o.guard with
  | none => StepD P fl o env I Hs Ha K
  | some (j, want) =>
    match (ops[j]?).bind (·.dst) with
    | some t => wGuardD (env t) want (fun K => StepD P fl o env I Hs Ha K) K I Hs Ha
    | none => False
def WD (P : Program) (ops : Array Oper) (KF : KE) : List Nat → Env → Imm → PH → PH → Prop
  | [], env, I, Hs, Ha => wIn I (join Hs Ha) (KF env)
  | i :: r, env, I, Hs, Ha =>
    match ops[idx i]? with
    | some o => StepDG P ops (Nat.ble 1000 i) o env I Hs Ha (fun v I Hs Ha => WD P ops KF r (putE env o.dst v) I Hs Ha)
    | none => False
def wKeep (H : PH) (F : PH → PH → Prop) : Prop :=
  ∃ keep : Nat → Bool, F (fun b => cond (keep b) (H b) none) (fun b => cond (keep b) none (H b))

section
variable {fl : Bool} {o : Oper} {env : Env} {I : Imm} {Hs Ha : PH} {K : KD}
theorem exec_semPick (c a b : Operand) (w : World) : (do pure (Next.value (← semPick (ev env c) (ev env a) (ev env b))) : Sem Next).run P w =
    (do pure (Next.value (if ← asBool (ev env c) then ev env a else ev env b)) : Sem Next).run P w := by
  simp only [semPick]
  rw [run_bind, run_bind, run_bind]
  cases (asBool (ev env c)).run P w with
  | halt x w' => rfl
  | ok b w' => cases b <;> rfl

theorem clsF_of {fl : Bool} {op : Op} {n : Nat} (hc : cls op = n) (h1 : n ≠ 1 ∧ n ≠ 3) : clsF fl op = n := by
  unfold clsF; split <;> simp_all
theorem clsF_off {op : Op} {n : Nat} (hc : cls op = n) : clsF false op = n := by
  unfold clsF; split <;> simp_all
theorem cond_off {fl : Bool} {A : Prop} (h : cond fl False A) : fl = false ∧ A := by cases fl; exact ⟨rfl, h⟩; exact h.elim
theorem wPure.x {s : Sem Value} {op : Op} {dst : Option Tmp} {ty : TypeId} {pos : String} {af : Array Edge} {g : Option (Nat × Bool)} (hc : cls op = 0)
    (he : ∀ w, (execOp (ev env) ⟨dst, op, ty, pos, af, g⟩).run P w = (do pure (Next.value (← s)) : Sem Next).run P w) (h : wPure P s (fun v => K v I Hs Ha)) :
    StepX P fl ⟨dst, op, ty, pos, af, g⟩ env I Hs Ha K := by
  obtain ⟨v, hr, hk⟩ := h
  exact (StepX.eq0 (clsF_of hc (by decide))).2 ⟨v, fun w => by rw [he w, run_v (hr w)], hk⟩
theorem wRead.x {s : Sem Value} {op : Op} {dst : Option Tmp} {ty : TypeId} {pos : String} {af : Array Edge} {g : Option (Nat × Bool)} (hc : cls op = 1)
    (he : ∀ w, (execOp (ev env) ⟨dst, op, ty, pos, af, g⟩).run P w = (do pure (Next.value (← s)) : Sem Next).run P w) (h : wRead P s I (cond fl (join Hs Ha) Hs) (fun v => K v I Hs Ha)) :
    StepX P fl ⟨dst, op, ty, pos, af, g⟩ env I Hs Ha K := by
  obtain ⟨v, hr, hk⟩ := h
  cases fl with
  | false => exact (StepX.eq1 (by simp [clsF, hc])).2 ⟨v, fun w hw => by rw [he w, run_v (hr w hw)], hk⟩
  | true => exact (StepX.eq5 (by simp [clsF, hc])).2 ⟨v, fun w hw => by rw [he w, run_v (hr w hw)], hk⟩
theorem wMakeD.x {s : Sem Value} {op : Op} {dst : Option Tmp} {ty : TypeId} {pos : String} {af : Array Edge} {g : Option (Nat × Bool)} (hc : cls op = 2)
    (he : ∀ w, (execOp (ev env) ⟨dst, op, ty, pos, af, g⟩).run P w = (do pure (Next.value (← s)) : Sem Next).run P w) (h : wMakeD P s I Hs Ha (fun v Hs => K v I Hs Ha)) :
    StepX P fl ⟨dst, op, ty, pos, af, g⟩ env I Hs Ha K := by
  obtain ⟨f, ob, hr, hk⟩ := h
  exact (StepX.eq2 (clsF_of hc (by decide))).2 ⟨f, ob, fun w => by rw [he w, run_v (hr w)], fun b h1 h2 => by
    obtain ⟨_, h3, h4⟩ := h2.1.less h1
    exact hk b h3 h1 h4⟩
theorem wActQ.x {s : Sem Value} {op : Op} {dst : Option Tmp} {ty : TypeId} {pos : String} {af : Array Edge} {g : Option (Nat × Bool)} (hc : cls op = 3)
    (he : ∀ w, (execOp (ev env) ⟨dst, op, ty, pos, af, g⟩).run P w = (do pure (Next.value (← s)) : Sem Next).run P w) (h : wActQ P s I Hs Ha (fun v I Ha => K v I Hs Ha)) :
    StepX P false ⟨dst, op, ty, pos, af, g⟩ env I Hs Ha K := by
  obtain ⟨R, hr, hk⟩ := h
  refine (StepX.eq3 (clsF_off hc)).2 ⟨R, fun Hs w hsub hd hw => ?_, fun v I' Ha' h1 h2 h3 => hk v I' Ha' h1 h2.1 h3⟩
  obtain ⟨v, w', I', Ha', e, h1, h2, h3, h4⟩ := hr Hs w hsub hd hw
  rw [he w, run_v e]
  exact ⟨I', Ha', h1, h2, h3, h4⟩
theorem wActQ.xu {s : Sem Unit} {op : Op} {dst : Option Tmp} {ty : TypeId} {pos : String} {af : Array Edge} {g : Option (Nat × Bool)} (hc : cls op = 3)
    (he : ∀ w, (execOp (ev env) ⟨dst, op, ty, pos, af, g⟩).run P w = (do s; pure Next.skip : Sem Next).run P w) (h : wActQ P s I Hs Ha (fun _ I Ha => K undef I Hs Ha)) :
    StepX P false ⟨dst, op, ty, pos, af, g⟩ env I Hs Ha K := by
  obtain ⟨R, hr, hk⟩ := h
  refine (StepX.eq3 (clsF_off hc)).2 ⟨fun v I Ha => v = undef ∧ R () I Ha, fun Hs w hsub hd hw => ?_, fun v I' Ha' h1 h2 ⟨h3, h4⟩ => by subst h3; exact hk () I' Ha' h1 h2.1 h4⟩
  obtain ⟨v, w', I', Ha', e, h1, h2, h3, h4⟩ := hr Hs w hsub hd hw
  rw [he w, run_u e]
  exact ⟨I', Ha', h1, h2, h3, rfl, h4⟩

theorem StepD.x (h : StepD P fl o env I Hs Ha K) : StepX P fl o env I Hs Ha K := by
  obtain ⟨dst, op, type, pos, after, guard⟩ := o
  cases op <;> simp only [StepD] at h
  case move x => exact (StepX.eq0 (clsF_of rfl (by decide))).2 ⟨_, fun w => rfl, h⟩
  case assign x => exact (StepX.eq0 (clsF_of rfl (by decide))).2 ⟨_, fun w => rfl, h⟩
  case makeFunc fn first cap => exact (StepX.eq0 (clsF_of rfl (by decide))).2 ⟨_, fun w => by simp only [execOp, Instr.makeFunc, opsV_toArray]; rfl, h⟩
  case pick c a b => exact wPure.x rfl (fun w => by rw [exec_semPick]; rfl) h
  case build t ps => rw [ops2_toArray] at h; exact wPure.x rfl (fun w => rfl) h
  case buildSlice t n ps => rw [ops2_toArray] at h; exact wMakeD.x rfl (fun w => rfl) h
  case makeMap t r =>
    cases r with
    | none => exact wMakeD.x rfl (fun w => rfl) h
    | some r => exact h.elim
  case nilCheck x =>
    obtain ⟨v, hr, hk⟩ := h
    refine (StepX.eq0 (clsF_of rfl (by decide))).2 ⟨v, fun w => ?_, hk⟩
    have hr := hr w
    simp only [execOp]
    cases hx : ev env x with
    | func fn first cap =>
      rw [hx] at hr
      cases fn <;> first
        | (simp only [semNil] at hr; rw [run_pure] at hr; cases hr; rfl)
        | (simp only [semNil, stuck, Sem.run] at hr; cases hr)
    | pointer a =>
      rw [hx] at hr
      cases a with
      | none => simp only [semNil] at hr; simp [runtimePanic, program, Sem.run, goPanic] at hr
      | some a => simp only [semNil] at hr; rw [run_pure] at hr; cases hr; rfl
    | nilIface => rw [hx] at hr; simp only [semNil] at hr; simp [runtimePanic, program, Sem.run, goPanic] at hr
    | nilFunc => rw [hx] at hr; simp only [semNil] at hr; simp [runtimePanic, program, Sem.run, goPanic] at hr
    | _ => rw [hx] at hr; simp only [semNil] at hr; rw [run_pure] at hr; cases hr; rfl
  case binOp bo t x y yt => exact wPure.x rfl (fun w => by simp only [semBin, eqGuard_c]; rfl) h
  case call c =>
    obtain ⟨callee, args, argTypes⟩ := c
    cases callee with
    | value f =>
      simp only [] at h
      have key : ∀ {fi : FuncId} {first cap : Array Value} {R : Value → Imm → PH → Prop}, ev env f = .func (.func fi) first cap → CallQ P fi (first.toList ++ opsV env args ++ cap.toList) I Hs Ha R →
          ∀ Hs' w, Sub Hs Hs' → Disj I Hs' Ha → Sat I (join Hs' Ha) w → OutcQ P I Hs' R ((execOp (ev env) ⟨dst, .call ⟨.value f, args, argTypes⟩, type, pos, after, guard⟩).run P w) := by
        intro fi first cap R hf hr Hs w hsub hd hw
        have hcall := hr Hs w hsub hd hw
        simp only [execOp, resolve, hf, Deferred.ofValue]
        rw [run_bind, run_pure]
        simp only [Result.andThen_ok, invoke]
        have e : (first.toList ++ opsV env args ++ cap.toList).toArray = first ++ args.map (ev env) ++ cap := by
          rw [← opsV_toArray]; apply Array.ext'; simp
        rw [e] at hcall
        revert hcall
        cases (callFunc fi (first ++ args.map (ev env) ++ cap)).run P w with
        | ok n w' => cases n <;> first | exact id | exact False.elim
        | halt x w' => exact False.elim
      cases fl with
      | false =>
        obtain ⟨fi, first, cap, hf, R, hr, hk⟩ := h
        exact (StepX.eq3 (clsF_off rfl)).2 ⟨R, key hf hr, fun v I' Ha' h1 h2 h3 => hk v I' Ha' h1 h2.1 h3⟩
      | true =>
        obtain ⟨fi, first, cap, hf, R, hr, hk⟩ := h
        exact (StepX.eq6 rfl).2 ⟨R, key hf hr, fun v I' h1 h2 h3 => hk v I' h1 h2.1 h3⟩
    | builtin b =>
      simp only [] at h
      cases b <;> simp only [wBuiltinD] at h <;> first
        | exact h.elim
        | exact wRead.x rfl (fun w => by simp only [execOp, resolve]; rw [run_bind, run_pure]; simp only [Result.andThen_ok, invoke, builtin, ← opsV_toArray]) h
        | obtain ⟨rfl, h⟩ := cond_off h; exact wActQ.x rfl (fun w => by simp only [execOp, resolve]; rw [run_bind, run_pure]; simp only [Result.andThen_ok, invoke, builtin, ← opsV_toArray]) h
    | invoke r m => exact h.elim
  all_goals first
    | exact h.elim
    | exact wPure.x rfl (fun w => rfl) h
    | exact wRead.x rfl (fun w => rfl) h
    | exact wMakeD.x rfl (fun w => rfl) h
    | (obtain ⟨rfl, h⟩ := cond_off h; exact wActQ.xu rfl (fun w => rfl) h)

theorem StepDG.x (h : StepDG P ops fl o env I Hs Ha K) : StepXG P ops fl o env I Hs Ha K := by
  unfold StepDG at h
  unfold StepXG gd
  split at h
  · rename_i e; simp only [e]; exact h.x
  · rename_i j want e; simp only [e]
    split at h
    · rename_i t ht; simp only [ht]
      rcases h with ⟨b, hb, h1, h2⟩ | ⟨hb, h1⟩
      · simp only [hb]
        cases b <;> cases want <;> first | exact (h1 rfl).x | exact h2 rfl
      · simp only [hb, undef]; exact h1
    · exact h.elim
end
theorem hasN_mem {x : Nat} : ∀ {l : List Nat}, hasN x l = true ↔ x ∈ l
  | [] => by simp [hasN]
  | y :: l => by
    simp only [hasN]
    by_cases h : x = y
    · subst h; simp
    · have : Nat.beq x y = false := by rw [← Bool.not_eq_true, Nat.beq_eq]; exact h
      simp [this, hasN_mem, h]
theorem WD.x {KF : KE} {ord : List Nat} (hn : (ord.map idx).Nodup) : ∀ (r : List Nat), (∀ i ∈ r, i ∈ ord) → ∀ (env : Env) (I : Imm) (Hs Ha : PH), Live I Hs Ha → WD P ops KF r env I Hs Ha →
    WX P ops (flag ord) (fun env I Hs Ha => KF env I (join Hs Ha)) (r.map idx) env I Hs Ha
  | [], _, _, _, _, _, _, h => h
  | i :: r, hr, env, I, Hs, Ha, hl, h => by
    unfold WD at h
    simp only [List.map_cons]
    unfold WX stepI
    have hf : flag ord (idx i) = Nat.ble 1000 i := by
      unfold flag
      have hi := hr i (.head _)
      by_cases c : i < 1000
      · have e1 : idx i = i := by unfold idx; rw [show Nat.blt i 1000 = true from by simpa [Nat.blt_eq] using c]; rfl
        have e2 : Nat.ble 1000 i = false := by rw [← Bool.not_eq_true, Nat.ble_eq]; omega
        rw [e1, e2]
        cases hh : hasN (i + 1000) ord with
        | false => rfl
        | true =>
          rw [hasN_mem] at hh
          have e3 : idx (i + 1000) = i := by unfold idx; rw [show Nat.blt (i + 1000) 1000 = false from by rw [← Bool.not_eq_true, Nat.blt_eq]; omega]; simp
          obtain ⟨a, ha, hae⟩ := List.getElem_of_mem hi
          obtain ⟨b, hb, hbe⟩ := List.getElem_of_mem hh
          have h1 : (ord.map idx)[a]'(by simpa using ha) = i := by rw [List.getElem_map, hae, e1]
          have h2 : (ord.map idx)[b]'(by simpa using hb) = i := by rw [List.getElem_map, hbe, e3]
          have hab := (List.getElem_inj hn).1 (h1.trans h2.symm)
          subst hab
          rw [hae] at hbe; omega
      · have e1 : idx i + 1000 = i := by unfold idx; rw [show Nat.blt i 1000 = false from by rw [← Bool.not_eq_true, Nat.blt_eq]; omega]; simp; omega
        rw [e1, hasN_mem.2 hi, (show Nat.ble 1000 i = true from by rw [Nat.ble_eq]; omega)]
    split at h
    · rename_i o ho; simp only [ho, hf]
      exact StepXG.monoE h.x hl fun v I' Hs' Ha' _ hl' hk => WD.x hn r (fun j hj => hr j (.tail _ hj)) _ _ _ _ hl' hk
    · exact h.elim

end Go.Proofs.Ytibgbapeblicjaa
