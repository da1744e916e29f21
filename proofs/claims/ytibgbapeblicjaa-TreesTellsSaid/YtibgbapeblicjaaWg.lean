/- The calculus' laws for operations on memory: loads, stores, slices, append, copy, calls. -/
import Derived.Test.YtibgbapeblicjaaWf
set_option linter.unusedVariables false
namespace Go.Proofs.Ytibgbapeblicjaa
open Go
variable {P : Program}

/-! ### Reading cells -/
theorem cell_of {w : World} {b o : Nat} {arr : Array Value} {E : TypeId} {fr : Nat × Nat} {v : Value} (hg : w.heap[b]? = some (.cells arr E fr)) (hv : arr[o]? = some v) : w.cell? ⟨b, o, none⟩ = some v := by
  simp [World.cell?, hg, hv]
theorem run_load1 {T : TypeId} {n : Nat} (ht : TyI P T false n) {w : World} {b o : Nat} {arr : Array Value} {E : TypeId} {fr : Nat × Nat} {v : Value} (hg : w.heap[b]? = some (.cells arr E fr)) (hv : arr[o]? = some v) :
    (Instr.loadAt T (ptr b o)).run P w = .ok v w := by
  unfold Instr.loadAt Instr.sureAddr loadVar
  rw [run_bind, run_pure]
  simp only [Result.andThen_ok]
  rw [run_bind, ht.agg w]
  simp only [Result.andThen_ok, Bool.false_eq_true, if_false, run_load, cell_of hg hv]
theorem run_loadN {T : TypeId} {n : Nat} (ht : TyI P T true n) {w : World} {b o : Nat} {arr : Array Value} {E : TypeId} {fr : Nat × Nat} {cs : List Value} (hg : w.heap[b]? = some (.cells arr E fr)) (hl : cs.length = n)
    (hv : ∀ j v, cs[j]? = some v → arr[o + j]? = some v) : (Instr.loadAt T (ptr b o)).run P w = .ok (.agg cs.toArray) w := by
  unfold Instr.loadAt Instr.sureAddr loadVar
  rw [run_bind, run_pure]
  simp only [Result.andThen_ok]
  rw [run_bind, ht.agg w]
  simp only [Result.andThen_ok, if_true]
  rw [run_bind, ht.size w]
  simp only [Result.andThen_ok]
  subst hl
  rw [run_bind, run_loadCells_list w ⟨b, o, none⟩ cs (fun j v h => by rw [add_off]; exact cell_of hg (hv j v h))]
  rfl

theorem ld1 {T n : Nat} (ht : TyI P T false n) {I : Imm} {H : PH} {K : Value → Prop} {b o : Nat} {arr : Array Value} {E : TypeId} {fr : Nat × Nat} {v : Value} (hb : Has I H b (.cells arr E fr)) (hv : arr[o]? = some v) (h : K v) :
    wRead P (Instr.loadAt T (ptr b o)) I H K := ⟨v, fun _ hw => run_load1 ht (hw.has hb) hv, h⟩
theorem ldN {T n : Nat} (ht : TyI P T true n) {I : Imm} {H : PH} {K : Value → Prop} {b o : Nat} {arr : Array Value} {E : TypeId} {fr : Nat × Nat} {cs : List Value} (hb : Has I H b (.cells arr E fr)) (hl : cs.length = n)
    (hv : ∀ j v, cs[j]? = some v → arr[o + j]? = some v) (h : K (.agg cs.toArray)) : wRead P (Instr.loadAt T (ptr b o)) I H K := ⟨_, fun _ hw => run_loadN ht (hw.has hb) hl hv, h⟩
/-- Of a block of the call's own, the k-th: a load of a cell, of all cells, of a part. -/
theorem lo1 {T n : Nat} (ht : TyI P T false n) {I : Imm} {L : List (Nat × Obj)} {H : PH} (hnd : ND L H) (k : Nat) {K : Value → Prop} {b o : Nat} {arr : Array Value} {E : TypeId} {v : Value} (hk : L[k]? = some (b, .cells arr E (0, 0))) (hv : arr[o]? = some v) (h : K v) :
    wRead P (Instr.loadAt T (ptr b o)) I (upds L H) K := ld1 ht (.inl (hnd.get k hk)) hv h
theorem loW {T n : Nat} (ht : TyI P T true n) {I : Imm} {L : List (Nat × Obj)} {H : PH} (hnd : ND L H) (k : Nat) {K : Value → Prop} {b : Nat} {arr : Array Value} {E : TypeId} (hk : L[k]? = some (b, .cells arr E (0, 0))) (hn : arr.size = n) (h : K (.agg arr)) :
    wRead P (Instr.loadAt T (ptr b 0)) I (upds L H) K :=
  ldN ht (.inl (hnd.get k hk)) (cs := arr.toList) (by simpa using hn) (fun j v hj => by simpa using hj) (by simpa using h)
theorem loP {T n : Nat} (ht : TyI P T true n) {I : Imm} {L : List (Nat × Obj)} {H : PH} (hnd : ND L H) (k : Nat) {K : Value → Prop} {b o : Nat} {arr : Array Value} {E : TypeId} (hk : L[k]? = some (b, .cells arr E (0, 0))) (hn : o + n ≤ arr.size) (h : K (.agg ((arr.toList.drop o).take n).toArray)) :
    wRead P (Instr.loadAt T (ptr b o)) I (upds L H) K := by
  refine ldN ht (.inl (hnd.get k hk)) (cs := (arr.toList.drop o).take n) (by simp; omega) (fun j v hj => ?_) h
  rw [List.getElem?_take] at hj
  split at hj
  · simpa using hj
  · cases hj

/-! ### Storing cells -/
def setN (l : List Value) (o : Nat) (vs : List Value) : List Value := l.take o ++ vs ++ l.drop (o + vs.length)
theorem run_storeN {T n : Nat} (ht : ∀ w, (sizeOf T).run P w = .ok n w) {w : World} {b o : Nat} {arr : Array Value} {E : TypeId} {v : Value} (hg : w.heap[b]? = some (.cells arr E (0, 0))) (hn : v.cells.size = n) (hfit : o + n ≤ arr.size)
    (h1 : ∀ x ∈ v.cells.toList, x.oneCell' = true) : (Instr.storeAt T (ptr b o) v).run P w = .ok () (w.setRow b (setN arr.toList o v.cells.toList).toArray) := by
  unfold Instr.storeAt Instr.sureAddr storeVar
  rw [run_bind, run_pure]
  simp only [Result.andThen_ok]
  rw [run_bind, ht w]
  simp only [Result.andThen_ok, hn, ne_eq, not_true_eq_false, if_false]
  have := run_storeCells_at P b o E v.cells.toList 0 arr w hg (by simp [hn]; omega) h1
  simpa [setN] using this

theorem Sat.setRow {I : Imm} {H : PH} {w : World} (h : Sat I H w) {b : Nat} {arr : Array Value} {E : TypeId} {fr : Nat × Nat} (hb : H b = some (.cells arr E fr)) (cs : Array Value) : Sat I (upd H b (.cells cs E fr)) (w.setRow b cs) := by
  have hg := h.own b _ hb
  have hi : I.blk b = none := by
    cases e : I.blk b with
    | none => rfl
    | some o => have := h.dis b o e; rw [hb] at this; cases this
  refine ⟨fun c o e => ?_, fun c o e => ?_, fun c o e => ?_, h.os, h.tape, h.output⟩
  · have hne : c ≠ b := fun x => by subst x; rw [hi] at e; cases e
    rw [setRow_other w b c cs hne]; exact h.imm c o e
  · by_cases hc : c = b
    · subst hc; rw [upd_same] at e; cases e; exact setRow_heap w c arr cs E fr hg
    · rw [upd_ne _ _ hc] at e; rw [setRow_other w b c cs hc]; exact h.own c o e
  · have hne : c ≠ b := fun x => by subst x; rw [hi] at e; cases e
    rw [upd_ne _ _ hne]; exact h.dis c o e

theorem stG {T n : Nat} (ht : ∀ w, (sizeOf T).run P w = .ok n w) {I : Imm} {H : PH} {K : Unit → Imm → PH → Prop} {b o : Nat} {arr : Array Value} {E : TypeId} {v : Value}
    (hb : H b = some (.cells arr E (0, 0))) (hn : v.cells.size = n) (hfit : o + n ≤ arr.size) (h1 : ∀ x ∈ v.cells.toList, x.oneCell' = true)
    (h : K () I (upd H b (.cells (setN arr.toList o v.cells.toList).toArray E (0, 0)))) : wAct P (Instr.storeAt T (ptr b o) v) I H K := fun w hw =>
  ⟨(), _, I, _, run_storeN ht (hw.own b _ hb) hn hfit h1, .refl I, hw.setRow hb _, h⟩
/-- A store into the call's own k-th block. -/
theorem sto {T n : Nat} {agg : Bool} (ht : TyI P T agg n) {I : Imm} {L : List (Nat × Obj)} {H : PH} (hnd : ND L H) (k : Nat) {K : Unit → Imm → PH → Prop} {b o : Nat} {arr : Array Value} {E : TypeId} {v : Value}
    (hk : L[k]? = some (b, .cells arr E (0, 0))) (hn : v.cells.size = n) (hfit : o + n ≤ arr.size) (h1 : v.cells.toList.all (·.oneCell') = true)
    (h : ND (L.set k (b, .cells (setN arr.toList o v.cells.toList).toArray E (0, 0))) H → K () I (upds (L.set k (b, .cells (setN arr.toList o v.cells.toList).toArray E (0, 0))) H)) : wAct P (Instr.storeAt T (ptr b o) v) I (upds L H) K := by
  refine stG ht.size (hnd.get k hk) hn hfit (by simpa only [List.all_eq_true] using h1) ?_
  rw [← upds_set hnd _ hk]
  exact h (hnd.set _ hk)

/-! ### Slices -/
theorem run_len {T S ty : TypeId} {a : Option Addr} {n c : Nat} (hu : P.underlying T = some (.slice S)) (w : World) : (Builtin.len_ #[T] ty #[.slice a n c]).run P w = .ok (vi n) w := by
  unfold Builtin.len_
  simp only [List.getElem?_toArray, List.getElem?_cons_zero]
  rw [run_bind, und_run hu w]; rfl
theorem r_len {T S ty : TypeId} {a : Option Addr} {n c : Nat} (hu : P.underlying T = some (.slice S)) {I : Imm} {H : PH} {K : Value → Prop} (h : K (vi n)) : wRead P (Builtin.len_ #[T] ty #[.slice a n c]) I H K := ⟨_, fun _ _ => run_len hu _, h⟩
theorem run_cap {T S ty : TypeId} {a : Option Addr} {n c : Nat} (hu : P.underlying T = some (.slice S)) (w : World) : (Builtin.cap_ #[T] ty #[.slice a n c]).run P w = .ok (vi c) w := by
  unfold Builtin.cap_
  simp only [List.getElem?_toArray, List.getElem?_cons_zero]
  rw [run_bind, und_run hu w]; rfl
theorem run_index {T S : TypeId} {s : Nat} {agg : Bool} (hu : P.underlying T = some (.slice S)) (ht : TyI P S agg s) {b o n c : Nat} {k : IntKind} {i : Int} (h0 : 0 ≤ i) (h1 : i < n) (w : World) :
    (Instr.indexAt T (slv b o n c) (.int k i)).run P w = .ok (ptr b (o + i.toNat * s)) w := by
  unfold Instr.indexAt asIntOf
  rw [run_bind, run_pure]
  simp only [Result.andThen_ok]
  rw [run_bind, und_run hu w]
  simp only [Result.andThen_ok]
  rw [run_bind, run_pure]
  simp only [Result.andThen_ok]
  rw [run_bind, und_run hu w]
  simp only [Result.andThen_ok, h0, h1, and_self, if_true]
  rw [run_bind, ht.size w]
  simp only [Result.andThen_ok, run_pure, add_off]
theorem p_index {T S : TypeId} {s : Nat} {agg : Bool} (hu : P.underlying T = some (.slice S)) (ht : TyI P S agg s) {b o n c : Nat} {k : IntKind} {i : Int} {K : Value → Prop} (h0 : 0 ≤ i) (h1 : i < n)
    (h : K (ptr b (o + i.toNat * s))) : wPure P (Instr.indexAt T (slv b o n c) (.int k i)) K := p_gen (run_index hu ht h0 h1) h

/-! ### Calls -/
theorem c_call {f : FuncId} {args : List Value} {I : Imm} {H : PH} {K : KV} (h : CallA P f args I H K) : wCall P (vf f) args I H K := ⟨f, #[], #[], rfl, by simpa using h⟩
theorem c_clos {f : FuncId} {cap : Array Value} {args : List Value} {I : Imm} {H : PH} {K : KV} (h : CallA P f (args ++ cap.toList) I H K) : wCall P (.func (.func f) #[] cap) args I H K := ⟨f, #[], cap, rfl, by simpa using h⟩
theorem keep_all {H : PH} {F : PH → PH → Prop} (h : F H none') : wKeep H F := ⟨fun _ => true, h⟩
theorem join_none (H : PH) : join H none' = H := by funext b; simp [join, none']
theorem in_none {I : Imm} {H : PH} {F : Imm → PH → Prop} (h : F I H) : wIn I (join H none') F := by unfold wIn; rw [join_none]; exact h
/-- A call in a region that draws, by a contract that leaves the call's own part alone. -/
theorem cq_quiet {f : FuncId} {args : List Value} {I : Imm} {Hs : PH} {K : Value → Imm → PH → Prop} {R : Value → Imm → Prop} (h : ∀ H, Sub Hs H → CallA P f args I H (fun v I' H' => H' = H ∧ R v I'))
    (hk : ∀ v I', I.le I' → R v I' → K v I' none') : wCallQ P (vf f) args I Hs none' K := by
  refine ⟨f, #[], #[], rfl, fun v I' Ha' => Ha' = none' ∧ R v I', fun Hs w hsub hd hw => ?_, fun v I' Ha' hl _ ⟨e, hr⟩ => by subst e; exact hk v I' hl hr⟩
  rw [join_none] at hw
  have h1 := h Hs hsub w hw
  have key : ∀ e w', After I (fun v I' H' => H' = Hs ∧ R v I') e w' → AfterQ I Hs (fun v I' Ha' => Ha' = none' ∧ R v I') e w' := by
    intro e w' he
    cases e with
    | returned v =>
      obtain ⟨I', H', hl, h2, rfl, h4⟩ := he
      exact ⟨I', none', hl, ⟨fun b o e => ⟨h2.dis b o e, rfl⟩, fun _ _ _ => rfl⟩, by rw [join_none]; exact h2, rfl, h4⟩
    | panicked c => exact he
    | outgrown => exact he
  revert h1
  simp only [List.append_nil, List.nil_append]
  unfold UponCall
  cases (callFunc f args.toArray).run P w with
  | ok n w' =>
    cases n <;> first
      | exact id
      | exact fun h => key (.returned _) _ h
      | exact fun h => Calls.mono h key
  | halt x w' => exact id
/-- What is known behind a call may be put otherwise: parts of the state may be let go, or never change again. -/
theorem CallA.post {f : FuncId} {args : List Value} {I : Imm} {H : PH} {K : KV} (h : CallA P f args I H (fun v I' H' => ∃ I2 H2, (∀ w, Sat I' H' w → Sat I2 H2 w) ∧ I'.le I2 ∧ K v I2 H2)) : CallA P f args I H K := by
  intro w hw
  have h1 := h w hw
  have key : ∀ e w', After I (fun v I' H' => ∃ I2 H2, (∀ w, Sat I' H' w → Sat I2 H2 w) ∧ I'.le I2 ∧ K v I2 H2) e w' → After I K e w' := by
    intro e w' he
    cases e with
    | returned v =>
      obtain ⟨I', H', h1, h2, I2, H2, h3, h4, h5⟩ := he
      exact ⟨I2, H2, h1.trans h4, h3 w' h2, h5⟩
    | panicked c => exact he
    | outgrown => exact he
  revert h1
  unfold UponCall
  cases (callFunc f args.toArray).run P w with
  | ok n w' =>
    cases n <;> first
      | exact id
      | exact fun h => key (.returned _) _ h
      | exact fun h => Calls.mono h key
  | halt x w' => exact id
theorem drop_own {L : List (Nat × Obj)} {H : PH} (hnd : ND L H) {I : Imm} {K : KV} {v : Value} (h : K v I H) : ∃ I2 H2, (∀ w, Sat I (upds L H) w → Sat I2 H2 w) ∧ I.le I2 ∧ K v I2 H2 :=
  ⟨I, H, fun _ hw => hw.less (upds_sub hnd), .refl I, h⟩

/-! ### From the calculus to the machine -/
def immOf (w : World) : Imm := ⟨fun b => w.heap[b]?, w.os, w.tape, w.output⟩
theorem sat_immOf (w : World) : Sat (immOf w) none' w := ⟨fun _ _ h => h, fun _ _ h => (nomatch h), fun _ _ _ => rfl, rfl, rfl, rfl⟩
theorem below_of {W w : World} {I : Imm} {H : PH} (hl : (immOf W).le I) (h : Sat I H w) : Go.RowKit.Below W.heap.size W w := by
  have hb : ∀ k, k < W.heap.size → w.heap[k]? = W.heap[k]? := fun k hk => by
    have e : W.heap[k]? = some W.heap[k] := by simp [hk]
    rw [e]; exact h.imm k _ (hl.blk k _ e)
  refine ⟨h.os.trans hl.os, h.tape.trans hl.tape, h.output.trans hl.output, ?_, hb⟩
  rcases Nat.eq_zero_or_pos W.heap.size with h0 | h0
  · omega
  · have := hb (W.heap.size - 1) (by omega)
    have e : W.heap[W.heap.size - 1]? = some W.heap[W.heap.size - 1] := by simp [show W.heap.size - 1 < W.heap.size by omega]
    rw [e] at this
    have := heap_lt this
    omega
theorem calls_of {f : FuncId} {fn : Func} {args : List Value} {W : World} {K : Value → Prop} (hf : P.funcs[f]? = some fn) (hb : fn.body.isSome = true) (hn : (fn.name == "runtime.NumGoroutine") = false)
    (h : CallA P f args (immOf W) none' (fun v _ _ => K v)) : Calls P f args.toArray W (fun e w' => (∃ v, e = .returned v ∧ K v) ∧ Go.RowKit.Below W.heap.size W w') := by
  have h1 := h W (sat_immOf W)
  have hcall : (callFunc f args.toArray).run P W = .ok (.enter f args.toArray) W := by
    have hn' : ¬ fn.name = "runtime.NumGoroutine" := by intro e; rw [e] at hn; simp at hn
    obtain ⟨c, hc⟩ := Option.isSome_iff_exists.1 hb
    unfold callFunc
    rw [run_bind]
    simp [program, Sem.run, hf, hn', hc]
  rw [hcall] at h1
  refine Calls.mono h1 fun e w' he => ?_
  cases e with
  | returned v => obtain ⟨I', H', hl, hs, hk⟩ := he; exact ⟨⟨v, rfl, hk⟩, below_of hl hs⟩
  | panicked c => exact he.elim
  | outgrown => exact he.elim
end Go.Proofs.Ytibgbapeblicjaa
