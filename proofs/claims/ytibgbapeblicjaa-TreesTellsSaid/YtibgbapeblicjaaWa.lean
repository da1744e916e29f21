/- A calculus over two partial heaps (one that never changes again, one that the call may still change), over the model's own weakest preconditions: the states, the steps, and that each step is sound. -/
import Derived.Orders
import Derived.Below
import Derived.KernelRfl
import Derived.Laws.World
import Derived.Laws.Sem
set_option linter.unusedVariables false
namespace Go.Proofs.Ytibgbapeblicjaa
open Go

abbrev PH := Nat → Option Obj
abbrev Env := Nat → Value

structure Imm where
  blk : PH
  os : Os
  tape : Nat → Question → Nat
  output : Array (Nat × ByteArray)

def upd (H : PH) (b : Nat) (o : Obj) : PH := fun x => if x = b then some o else H x
def del (H : PH) (b : Nat) : PH := fun x => if x = b then none else H x
def join (A B : PH) : PH := fun x => (B x).or (A x)
def none' : PH := fun _ => none

structure Sat (I : Imm) (H : PH) (w : World) : Prop where
  imm : ∀ b o, I.blk b = some o → w.heap[b]? = some o
  own : ∀ b o, H b = some o → w.heap[b]? = some o
  dis : ∀ b o, I.blk b = some o → H b = none
  os : w.os = I.os
  tape : w.tape = I.tape
  output : w.output = I.output

structure Imm.le (I J : Imm) : Prop where
  blk : ∀ b o, I.blk b = some o → J.blk b = some o
  os : J.os = I.os
  tape : J.tape = I.tape
  output : J.output = I.output

theorem Imm.le.refl (I : Imm) : I.le I := ⟨fun _ _ h => h, rfl, rfl, rfl⟩
theorem Imm.le.trans {I J K : Imm} (h : I.le J) (k : J.le K) : I.le K :=
  ⟨fun b o x => k.blk b o (h.blk b o x), k.os.trans h.os, k.tape.trans h.tape, k.output.trans h.output⟩

theorem upd_same (H : PH) (b : Nat) (o : Obj) : upd H b o b = some o := by simp [upd]
theorem upd_ne (H : PH) {b c : Nat} (o : Obj) (h : c ≠ b) : upd H b o c = H c := by simp [upd, h]
theorem del_same (H : PH) (b : Nat) : del H b b = none := by simp [del]
theorem del_ne (H : PH) {b c : Nat} (h : c ≠ b) : del H b c = H c := by simp [del, h]

theorem heap_lt {w : World} {b : Nat} {o : Obj} (h : w.heap[b]? = some o) : b < w.heap.size := (Array.getElem?_eq_some_iff.1 h).1

theorem Sat.fresh {I : Imm} {H : PH} {w : World} (h : Sat I H w) : I.blk w.heap.size = none ∧ H w.heap.size = none := by
  constructor
  · cases e : I.blk w.heap.size with
    | none => rfl
    | some o => exact absurd (heap_lt (h.imm _ _ e)) (Nat.lt_irrefl _)
  · cases e : H w.heap.size with
    | none => rfl
    | some o => exact absurd (heap_lt (h.own _ _ e)) (Nat.lt_irrefl _)

theorem alloc_old {w : World} {o : Obj} {b : Nat} {x : Obj} (h : w.heap[b]? = some x) : (w.alloc o).heap[b]? = some x := by
  have := heap_lt h
  show (w.heap.push o)[b]? = some x
  rw [Array.getElem?_push, if_neg (by omega)]; exact h
theorem alloc_new {w : World} {o : Obj} : (w.alloc o).heap[w.heap.size]? = some o := by
  show (w.heap.push o)[w.heap.size]? = some o
  simp

theorem Sat.alloc {I : Imm} {H : PH} {w : World} (h : Sat I H w) (o : Obj) : Sat I (upd H w.heap.size o) (w.alloc o) := by
  obtain ⟨f1, f2⟩ := h.fresh
  refine ⟨fun b x e => alloc_old (h.imm b x e), fun b x e => ?_, fun b x e => ?_, h.os, h.tape, h.output⟩
  · by_cases hb : b = w.heap.size
    · subst hb; rw [upd_same] at e; cases e; exact alloc_new
    · rw [upd_ne _ _ hb] at e; exact alloc_old (h.own b x e)
  · by_cases hb : b = w.heap.size
    · subst hb; rw [f1] at e; cases e
    · rw [upd_ne _ _ hb]; exact h.dis b x e

theorem Sat.drew {I : Imm} {H : PH} {w : World} (h : Sat I H w) : Sat I H { w with drawn := w.drawn + 1 } :=
  ⟨h.imm, h.own, h.dis, h.os, h.tape, h.output⟩

theorem Sat.less {I : Imm} {H H' : PH} {w : World} (h : Sat I H w) (hs : ∀ b o, H' b = some o → H b = some o) : Sat I H' w :=
  ⟨h.imm, fun b o e => h.own b o (hs b o e), fun b o e => (by
    cases e' : H' b with
    | none => rfl
    | some x => have := hs b x e'; rw [h.dis b o e] at this; cases this), h.os, h.tape, h.output⟩

theorem Sat.lessI {I J : Imm} {H : PH} {w : World} (h : Sat J H w) (hl : I.le J) : Sat I H w :=
  ⟨fun b o e => h.imm b o (hl.blk b o e), h.own, fun b o e => h.dis b o (hl.blk b o e), h.os.trans hl.os, h.tape.trans hl.tape, h.output.trans hl.output⟩

/-! ### The steps -/
def putE (env : Env) (d : Option Tmp) (v : Value) : Env :=
  match d with
  | some d => fun i => cond (Nat.beq i d) v (env i)
  | none => env
def ev (env : Env) : Operand → Value
  | .tmp t => env t
  | .const v => v
  | .global g => .pointer (some ⟨g, 0, none⟩)
  | .func f => .func (.func f) #[] #[]
def isC : Operand → Bool
  | .const _ => true
  | _ => false

abbrev KV := Value → Imm → PH → Prop

def wRead (P : Program) (s : Sem Value) (I : Imm) (H : PH) (K : Value → Prop) : Prop :=
  ∃ v, (∀ w, Sat I H w → s.run P w = .ok v w) ∧ K v
def wPure (P : Program) (s : Sem Value) (K : Value → Prop) : Prop := ∃ v, (∀ w, s.run P w = .ok v w) ∧ K v
def wMake (P : Program) (s : Sem Value) (I : Imm) (H : PH) (K : Value → PH → Prop) : Prop :=
  ∃ (f : Nat → Value) (o : Obj), (∀ w, s.run P w = .ok (f w.heap.size) (w.alloc o)) ∧ ∀ b, I.blk b = none → H b = none → K (f b) (upd H b o)
def wAct (P : Program) {α : Type} (s : Sem α) (I : Imm) (H : PH) (K : α → Imm → PH → Prop) : Prop :=
  ∀ w, Sat I H w → ∃ v w' I' H', s.run P w = .ok v w' ∧ I.le I' ∧ Sat I' H' w' ∧ K v I' H'

def UponCall (P : Program) (r : Result Next) (R : Ending → World → Prop) : Prop :=
  match r with
  | .ok (.value v) w' => R (.returned v) w'
  | .ok (.enter f args) w' => Calls P f args w' R
  | _ => False
def After (I : Imm) (K : KV) : Ending → World → Prop
  | .returned v, w' => ∃ I' H', I.le I' ∧ Sat I' H' w' ∧ K v I' H'
  | _, _ => False
def CallA (P : Program) (f : FuncId) (args : List Value) (I : Imm) (H : PH) (K : KV) : Prop :=
  ∀ w, Sat I H w → UponCall P ((callFunc f args.toArray).run P w) (After I K)
def wCall (P : Program) (fv : Value) (args : List Value) (I : Imm) (H : PH) (K : KV) : Prop :=
  ∃ f first cap, fv = .func (.func f) first cap ∧ CallA P f (first.toList ++ args ++ cap.toList) I H K

def wGuard (g : Value) (want : Bool) (F : KV → Prop) (K : KV) (I : Imm) (H : PH) : Prop :=
  (∃ b, g = .bool b ∧ (b = want → F K) ∧ (b = !want → K undef I H)) ∨ (g = undef ∧ K undef I H)

def semPick (c a b : Value) : Sem Value := do if ← asBool c then pure a else pure b
def semBin (op : BinOp) (t : TypeId) (xc yc : Bool) (a b : Value) : Sem Value := do
  eqGuard op t (cond xc (.const a) (.tmp 0)) (cond yc (.const b) (.tmp 0)) a b
  binOp op t a b
def semNil (v : Value) : Sem Value :=
  match v with
  | .pointer none | .nilIface | .nilFunc => runtimePanic .nilDeref
  | .func (.method _) _ _ => stuck ""
  | x => pure x
def ops2 (env : Env) (ps : Array (Nat × Operand)) : List (Nat × Value) := ps.toList.map fun p => (p.1, ev env p.2)
def opsV (env : Env) (ps : Array Operand) : List Value := ps.toList.map (ev env)

def wBuiltin (P : Program) (b : Builtin) (ts : Array TypeId) (ty : TypeId) (args : List Value) (I : Imm) (H : PH) (K : KV) : Prop :=
  match b with
  | .len => wRead P (Builtin.len_ ts ty args.toArray) I H (fun v => K v I H)
  | .cap => wRead P (Builtin.cap_ ts ty args.toArray) I H (fun v => K v I H)
  | .min => wRead P (Builtin.min_ ts ty args.toArray) I H (fun v => K v I H)
  | .max => wRead P (Builtin.max_ ts ty args.toArray) I H (fun v => K v I H)
  | .append => wAct P (Builtin.append_ ts ty args.toArray) I H K
  | .copy => wAct P (Builtin.copy_ ts ty args.toArray) I H K
  | .delete => wAct P (Builtin.delete_ ts ty args.toArray) I H K
  | .clear => wAct P (Builtin.clear_ ts ty args.toArray) I H K
  | _ => False

def StepA (P : Program) (o : Oper) (env : Env) (I : Imm) (H : PH) (K : KV) : Prop :=
  match o.op with
  | .move x => K (ev env x) I H
  | .assign x => K (ev env x) I H
  | .makeFunc fn first captured => K (.func fn (opsV env first).toArray (opsV env captured).toArray) I H
  | .alloc t => wMake P (Instr.alloc t true (.tuple #[])) I H (fun v H => K v I H)
  | .box t x => wMake P (Instr.box t (ev env x)) I H (fun v H => K v I H)
  | .buildSlice t n parts => wMake P (Instr.buildSlice t n (ops2 env parts).toArray) I H (fun v H => K v I H)
  | .makeMap t r => wMake P (Instr.makeMap t (r.map (ev env))) I H (fun v H => K v I H)
  | .makeSlice t l c => wMake P (Instr.makeSlice t (ev env l) (ev env c)) I H (fun v H => K v I H)
  | .pick c a b => wPure P (semPick (ev env c) (ev env a) (ev env b)) (fun v => K v I H)
  | .build t parts => wPure P (Instr.build t (ops2 env parts).toArray) (fun v => K v I H)
  | .load t a => wRead P (Instr.loadAt t (ev env a)) I H (fun v => K v I H)
  | .nilCheck x => wPure P (semNil (ev env x)) (fun v => K v I H)
  | .binOp op t x y _ => wPure P (semBin op t (isC x) (isC y) (ev env x) (ev env y)) (fun v => K v I H)
  | .unOp op _ x => wPure P (Op.unary op (ev env x)) (fun v => K v I H)
  | .convert s d x => wPure P (convert s d (ev env x)) (fun v => K v I H)
  | .makeInterface t x => wPure P (Instr.makeInterface t (ev env x)) (fun v => K v I H)
  | .slice t x lo hi mx => wPure P (Instr.sliceAt t (ev env x) (lo.map (ev env)) (hi.map (ev env)) (mx.map (ev env))) (fun v => K v I H)
  | .fieldAddr t x f => wPure P (Instr.fieldAt t (ev env x) f) (fun v => K v I H)
  | .field t x f => wPure P (Instr.field t (ev env x) f) (fun v => K v I H)
  | .indexAddr t x i => wPure P (Instr.indexAt t (ev env x) (ev env i)) (fun v => K v I H)
  | .index t x i => wPure P (Instr.index t (ev env x) (ev env i)) (fun v => K v I H)
  | .lookup t x i ok => wRead P (Instr.lookup t (ev env x) (ev env i) ok) I H (fun v => K v I H)
  | .typeAssert x t a ok => wPure P (Instr.typeAssert (ev env x) t a ok) (fun v => K v I H)
  | .extract t i => wPure P (Instr.extract (ev env t) i) (fun v => K v I H)
  | .entry it => wRead P (Instr.entry (ev env it)) I H (fun v => K v I H)
  | .store t a x => wAct P (Instr.storeAt t (ev env a) (ev env x)) I H (fun _ I H => K undef I H)
  | .mapUpdate t m k x => wAct P (Instr.mapUpdate t (ev env m) (ev env k) (ev env x)) I H (fun _ I H => K undef I H)
  | .insert t m k x => wAct P (Instr.mapUpdate t (ev env m) (ev env k) (ev env x)) I H (fun _ I H => K undef I H)
  | .mapEntry t m k => wAct P (Instr.mapEntry t (ev env m) (ev env k)) I H K
  | .entryStore t m s x => wAct P (Instr.entryStore t (ev env m) (ev env s) (ev env x)) I H (fun _ I H => K undef I H)
  | .range t x => wAct P (Instr.range t (ev env x)) I H K
  | .next it s => wAct P (Instr.next (ev env it) s o.type) I H K
  | .call c =>
    match c.callee with
    | .value f => wCall P (ev env f) (opsV env c.args) I H K
    | .builtin b => wBuiltin P b c.argTypes o.type (opsV env c.args) I H K
    | .invoke _ _ => False
  | _ => False

def guardV (ops : Array Oper) (env : Env) (j : Nat) : Option Value := ((ops[j]?).bind (·.dst)).map env
def StepG (P : Program) (ops : Array Oper) (o : Oper) (env : Env) (I : Imm) (H : PH) (K : KV) : Prop :=
  match o.guard with
  | none => StepA P o env I H K
  | some (j, want) =>
    match (ops[j]?).bind (·.dst) with
    | some t => wGuard (env t) want (fun K => StepA P o env I H K) K I H
    | none => False

abbrev KE := Env → Imm → PH → Prop
def Wops (P : Program) (ops : Array Oper) : List Oper → KE → Env → Imm → PH → Prop
  | [], K, env, I, H => K env I H
  | o :: rest, K, env, I, H => StepG P ops o env I H (fun v I H => Wops P ops rest K (putE env o.dst v) I H)

/-! ### Soundness of one step -/
def Act.envOf (a : Act) : Env := fun i => a.tmps.getD i undef
theorem ev_act (a : Act) (x : Operand) : ev (Act.envOf a) x = a.eval x := by cases x <;> rfl
theorem ev_act' (a : Act) : ev (Act.envOf a) = a.eval := funext (ev_act a)

theorem run_pure {α : Type} {P : Program} {a : α} {w : World} : (pure a : Sem α).run P w = .ok a w := rfl
theorem run_bind {α β : Type} {P : Program} (s : Sem α) (f : α → Sem β) (w : World) : (s >>= f).run P w = (s.run P w).andThen fun a w' => (f a).run P w' :=
  Sem.run_bind P w s f

theorem run_v {P : Program} {s : Sem Value} {w w' : World} {v : Value} (h : s.run P w = .ok v w') :
    (do pure (Next.value (← s)) : Sem Next).run P w = .ok (.value v) w' := by
  rw [run_bind, h]; rfl
theorem run_u {P : Program} {s : Sem Unit} {w w' : World} (h : s.run P w = .ok () w') :
    (do s; pure Next.skip : Sem Next).run P w = .ok .skip w' := by
  rw [run_bind, h]; rfl

theorem eqGuard_c (op : BinOp) (t : TypeId) (x y : Operand) (a b : Value) :
    eqGuard op t (cond (isC x) (.const a) (.tmp 0)) (cond (isC y) (.const b) (.tmp 0)) a b = eqGuard op t x y a b := by
  have hx : (match cond (isC x) (Operand.const a) (.tmp 0) with | .const _ => true | _ => false) = (match x with | .const _ => true | _ => false) := by cases x <;> rfl
  have hy : (match cond (isC y) (Operand.const b) (.tmp 0) with | .const _ => true | _ => false) = (match y with | .const _ => true | _ => false) := by cases y <;> rfl
  unfold eqGuard
  cases x <;> cases y <;> rfl

/-- What a step leaves, in the words of the walk below: the operation's outcome, its result put away, the state. -/
def Outc (P : Program) (I : Imm) (K : KV) (r : Result Next) : Prop :=
  match r with
  | .ok (.value v) w' => ∃ I' H', I.le I' ∧ Sat I' H' w' ∧ K v I' H'
  | .ok .skip w' => ∃ I' H', I.le I' ∧ Sat I' H' w' ∧ K undef I' H'
  | .ok (.enter f args) w' => Calls P f args w' (After I K)
  | _ => False

theorem wRead.out {P : Program} {s : Sem Value} {I : Imm} {H : PH} {K : KV} (h : wRead P s I H (fun v => K v I H)) {w : World} (hw : Sat I H w) :
    Outc P I K ((do pure (Next.value (← s)) : Sem Next).run P w) := by
  obtain ⟨v, hr, hk⟩ := h
  rw [run_v (hr w hw)]
  exact ⟨I, H, .refl I, hw, hk⟩
theorem wPure.out {P : Program} {s : Sem Value} {I : Imm} {H : PH} {K : KV} (h : wPure P s (fun v => K v I H)) {w : World} (hw : Sat I H w) :
    Outc P I K ((do pure (Next.value (← s)) : Sem Next).run P w) := by
  obtain ⟨v, hr, hk⟩ := h
  rw [run_v (hr w)]
  exact ⟨I, H, .refl I, hw, hk⟩
theorem wMake.out {P : Program} {s : Sem Value} {I : Imm} {H : PH} {K : KV} (h : wMake P s I H (fun v H => K v I H)) {w : World} (hw : Sat I H w) :
    Outc P I K ((do pure (Next.value (← s)) : Sem Next).run P w) := by
  obtain ⟨f, o, hr, hk⟩ := h
  rw [run_v (hr w)]
  obtain ⟨f1, f2⟩ := hw.fresh
  exact ⟨I, _, .refl I, hw.alloc o, hk _ f1 f2⟩
theorem wAct.out {P : Program} {s : Sem Value} {I : Imm} {H : PH} {K : KV} (h : wAct P s I H K) {w : World} (hw : Sat I H w) :
    Outc P I K ((do pure (Next.value (← s)) : Sem Next).run P w) := by
  obtain ⟨v, w', I', H', hr, hl, hs, hk⟩ := h w hw
  rw [run_v hr]
  exact ⟨I', H', hl, hs, hk⟩
theorem wAct.outu {P : Program} {s : Sem Unit} {I : Imm} {H : PH} {K : KV} (h : wAct P s I H (fun _ I H => K undef I H)) {w : World} (hw : Sat I H w) :
    Outc P I K ((do s; pure Next.skip : Sem Next).run P w) := by
  obtain ⟨v, w', I', H', hr, hl, hs, hk⟩ := h w hw
  rw [run_u hr]
  exact ⟨I', H', hl, hs, hk⟩

theorem opsV_toArray (env : Env) (xs : Array Operand) : (opsV env xs).toArray = xs.map (ev env) := by
  unfold opsV; apply Array.ext'; simp
theorem ops2_toArray (env : Env) (xs : Array (Nat × Operand)) : (ops2 env xs).toArray = xs.map fun (i, x) => (i, ev env x) := by
  unfold ops2; apply Array.ext'; simp

theorem StepA.out {P : Program} {o : Oper} {env : Env} {I : Imm} {H : PH} {K : KV} (h : StepA P o env I H K) {w : World} (hw : Sat I H w) :
    Outc P I K ((execOp (ev env) o).run P w) := by
  obtain ⟨dst, op, type, pos, after, guard⟩ := o
  cases op <;> simp only [StepA] at h <;> simp only [execOp]
  case move x => exact ⟨I, H, .refl I, hw, h⟩
  case assign x => exact ⟨I, H, .refl I, hw, h⟩
  case makeFunc fn first cap =>
    simp only [Instr.makeFunc]
    rw [← opsV_toArray, ← opsV_toArray]
    exact ⟨I, H, .refl I, hw, h⟩
  case pick c a b =>
    have := wPure.out h hw
    simp only [semPick] at this
    have e : (do pure (Next.value (← (do if ← asBool (ev env c) then pure (ev env a) else pure (ev env b)))) : Sem Next).run P w =
        (do pure (Next.value (if ← asBool (ev env c) then ev env a else ev env b)) : Sem Next).run P w := by
      rw [run_bind, run_bind, run_bind]
      cases (asBool (ev env c)).run P w with
      | halt x w' => rfl
      | ok b w' => cases b <;> rfl
    rw [← e]; exact this
  case build t ps => have := wPure.out h hw; rw [ops2_toArray] at this; exact this
  case buildSlice t n ps => have := wMake.out h hw; rw [ops2_toArray] at this; exact this
  case nilCheck x =>
    obtain ⟨v, hr, hk⟩ := h
    have hr := hr w
    cases hx : ev env x with
    | func fn first cap =>
      rw [hx] at hr
      cases fn <;> first
        | (simp only [semNil] at hr; rw [run_pure] at hr; cases hr; exact ⟨I, H, .refl I, hw, hk⟩)
        | (simp only [semNil, stuck, Sem.run] at hr; cases hr)
    | pointer a =>
      rw [hx] at hr
      cases a with
      | none => simp only [semNil] at hr; simp [runtimePanic, program, Sem.run, goPanic] at hr
      | some a => simp only [semNil] at hr; rw [run_pure] at hr; cases hr; exact ⟨I, H, .refl I, hw, hk⟩
    | nilIface => rw [hx] at hr; simp only [semNil] at hr; simp [runtimePanic, program, Sem.run, goPanic] at hr
    | nilFunc => rw [hx] at hr; simp only [semNil] at hr; simp [runtimePanic, program, Sem.run, goPanic] at hr
    | _ => rw [hx] at hr; simp only [semNil] at hr; rw [run_pure] at hr; cases hr; exact ⟨I, H, .refl I, hw, hk⟩
  case binOp bo t x y yt => have := wPure.out h hw; simp only [semBin, eqGuard_c] at this; exact this
  case call c =>
    cases hc : c.callee with
    | value f =>
      simp only [hc] at h
      obtain ⟨fi, first, cap, hf, hcall⟩ := h
      have hcall := hcall w hw
      simp only [resolve, hc, hf, Deferred.ofValue]
      rw [run_bind, run_pure]
      simp only [invoke]
      have e : (first.toList ++ opsV env c.args ++ cap.toList).toArray = first ++ c.args.map (ev env) ++ cap := by
        rw [← opsV_toArray]; apply Array.ext'; simp
      rw [e] at hcall
      simp only [Result.andThen_ok]
      revert hcall
      cases (callFunc fi (first ++ c.args.map (ev env) ++ cap)).run P w with
      | ok n w' => cases n <;> first | exact id | exact False.elim
      | halt x w' => exact False.elim
    | builtin b =>
      simp only [hc] at h
      simp only [resolve, hc]
      rw [run_bind, run_pure]
      simp only [invoke]
      rw [← opsV_toArray]
      cases b <;> simp only [wBuiltin] at h <;> first | exact h.elim | (simp only [builtin]; first | exact wRead.out h hw | exact wAct.out h hw)
    | invoke r m => simp only [hc] at h
  all_goals first
    | exact wPure.out h hw
    | exact wRead.out h hw
    | exact wMake.out h hw
    | exact wAct.out h hw
    | exact wAct.outu h hw
    | exact h.elim

end Go.Proofs.Ytibgbapeblicjaa
