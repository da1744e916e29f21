/- Maps whose keys are pairs of ints and whose values are bools: made, read, written. -/
import Derived.Test.YtibgbapeblicjaaWl
import Derived.Test.YtibgbapeblicjaaWt
import Derived.DeepKeys3
set_option linter.unusedVariables false
namespace Go.Proofs.Ytibgbapeblicjaa
open Go Go.WideMaps
set_option maxRecDepth 100000

abbrev litI (n : Int) : Option (List Lit) := if IntKind.i64 = IntKind.i64 ∧ (Lit.int .i64 n).wf = true then some [.int .i64 n] else none
theorem key_eq_61 (a b : Int) : keyOf PP 61 (.agg #[vi a, vi b]) = (([a, b].mapM litI).map List.flatten).map fun ls => .string (keyBytes ls) := by kernel_rfl
theorem key_eq_43 (a b : Int) : keyOf PP 43 (.agg #[vi a, vi b]) = (([a, b].mapM litI).map List.flatten).map fun ls => .string (keyBytes ls) := by kernel_rfl
theorem klaw_61 : KeyLaw PP 61 := deep_law (m := 2) (by decide) (by kernel_rfl) (by kernel_rfl) (by kernel_rfl)
theorem klaw_43 : KeyLaw PP 43 := deep_law (m := 2) (by decide) (by kernel_rfl) (by kernel_rfl) (by kernel_rfl)
section
variable {P : Program}
theorem Sat.setObj {I : Imm} {H : PH} {w : World} (h : Sat I H w) {r : Nat} {o : Obj} (hb : H r = some o) (o' : Obj) : Sat I (upd H r o') { w with heap := w.heap.setIfInBounds r o' } := by
  have hg := h.own r _ hb
  have hlt : r < w.heap.size := (Array.getElem?_eq_some_iff.1 hg).1
  have hi : I.blk r = none := by
    cases e : I.blk r with
    | none => rfl
    | some o => have := h.dis r o e; rw [hb] at this; cases this
  refine ⟨fun c o e => ?_, fun c o e => ?_, fun c o e => ?_, h.os, h.tape, h.output⟩
  · have hne : c ≠ r := fun x => by subst x; rw [hi] at e; cases e
    show (w.heap.setIfInBounds r o')[c]? = _
    rw [Array.getElem?_setIfInBounds_ne (Ne.symm hne)]; exact h.imm c o e
  · show (w.heap.setIfInBounds r o')[c]? = _
    by_cases hc : c = r
    · subst hc; rw [upd_same] at e; cases e; exact Array.getElem?_setIfInBounds_self_of_lt hlt
    · rw [upd_ne _ _ hc] at e; rw [Array.getElem?_setIfInBounds_ne (Ne.symm hc)]; exact h.own c o e
  · have hne : c ≠ r := fun x => by subst x; rw [hi] at e; cases e
    rw [upd_ne _ _ hne]; exact h.dis c o e
theorem getMap {w : World} {r : Nat} {es : Array MapEntry} {c : Nat} (hb : w.heap[r]? = some (.map es c)) : (getObj r).run P w = .ok (.map es c) w := by simp [getObj, Sem.run, hb]
theorem setMap {w : World} {r : Nat} {es : Array MapEntry} {c : Nat} (o' : Obj) (hb : w.heap[r]? = some (.map es c)) : (setObj r o').run P w = .ok () { w with heap := w.heap.setIfInBounds r o' } := by simp [setObj, Sem.run, hb]
def MSet (P : Program) (k : TypeId) (o : Obj) (S : List Value) : Prop :=
  ∃ es clock, o = .map es clock ∧ es.toList.map (·.key) = S ∧ ∀ e ∈ es.toList, e.val = .bool true ∧ ∃ l, keyOf P k e.key = some l
theorem MSet.nil (k : TypeId) : MSet P k (.map #[] 0) [] := ⟨#[], 0, rfl, rfl, fun _ h => (nomatch h)⟩
theorem mk_map {T : TypeId} {I : Imm} {L : List (Nat × Obj)} {H : PH} {K : Value → PH → Prop} (hnd : ND L H) (h : ∀ b, I.blk b = none → ND ((b, .map #[] 0) :: L) H → K (.map (some b)) (upds ((b, .map #[] 0) :: L) H)) :
    wMake P (Instr.makeMap T none) I (upds L H) K := mk_gen (f := fun b => .map (some b)) hnd (fun w => rfl) h
theorem r_mget {T k E : TypeId} (hm : P.underlying T = some (.map k E)) (hz : ZeroIs P E (.bool false)) (KL : KeyLaw P k) {x : Value} (hx : ∃ l, keyOf P k x = some l) {I : Imm} {H : PH} {r : Nat} {o : Obj} {S : List Value} (hb : Has I H r o) (ho : MSet P k o S)
    {K : Value → Prop} (h : ∀ b : Bool, (b = true ↔ x ∈ S) → K (.bool b)) : wRead P (Instr.lookup T (.map (some r)) x false) I H K := by
  obtain ⟨es, clock, rfl, hS, hall⟩ := ho
  obtain ⟨lx, hx⟩ := hx
  refine ⟨.bool (@decide (x ∈ S) (Classical.propDecidable _)), fun w hw => ?_, h _ (by simp)⟩
  have hg := hw.has hb
  unfold Instr.lookup
  rw [run_bind, und_run hm w]
  simp only [Result.andThen_ok]
  rw [run_bind, getMap hg]
  simp only [Result.andThen_ok]
  rw [run_bind, run_pure]
  simp only [Result.andThen_ok]
  rw [run_bind, KL.check w es.isEmpty hx]
  simp only [Result.andThen_ok]
  rcases KL.find w hx es.toList (fun e he => (hall e he).2) with ⟨h1, h2⟩ | ⟨j, e, h1, h2, h3⟩
  · rw [run_bind, h1]
    simp only [Result.andThen_ok]
    rw [run_bind, hz w]
    simp only [Result.andThen_ok]
    rw [run_bind, run_pure]
    simp only [Result.andThen_ok, run_pure]
    have : x ∉ S := fun hm => by rw [← hS] at hm; obtain ⟨e, he, hk⟩ := List.mem_map.1 hm; exact h2 e he hk
    simp [this]
  · rw [run_bind, h1]
    simp only [Result.andThen_ok]
    rw [run_bind, run_pure]
    simp only [Result.andThen_ok, run_pure]
    have hmem : e ∈ es.toList := List.mem_of_getElem? h2
    have : x ∈ S := by rw [← hS, ← h3]; exact List.mem_map.2 ⟨e, hmem, rfl⟩
    simp [this, (hall e hmem).1]
theorem ac_mset {T k E : TypeId} (hm : P.underlying T = some (.map k E)) (KL : KeyLaw P k) {x : Value} (hx : ∃ l, keyOf P k x = some l) {I : Imm} {H : PH} {r : Nat} {o : Obj} {S : List Value} (hb : H r = some o) (ho : MSet P k o S)
    {K : Unit → Imm → PH → Prop} (h : ∀ o' S', MSet P k o' S' → (x ∈ S → S' = S) → (x ∉ S → S' = S ++ [x]) → K () I (upd H r o')) : wAct P (Instr.mapUpdate T (.map (some r)) x (.bool true)) I H K := by
  obtain ⟨es, clock, rfl, hS, hall⟩ := ho
  obtain ⟨lx, hx⟩ := hx
  intro w hw
  have hg := hw.own r _ hb
  rcases KL.find w hx es.toList (fun e he => (hall e he).2) with ⟨h1, h2⟩ | ⟨j, e, h1, h2, h3⟩
  · have hn : x ∉ S := fun hm => by rw [← hS] at hm; obtain ⟨e, he, hk⟩ := List.mem_map.1 hm; exact h2 e he hk
    refine ⟨(), _, I, _, ?_, .refl I, hw.setObj hb (.map (es.push { key := x, val := .bool true, born := clock }) (clock + 1)), h _ (S ++ [x]) ⟨_, _, rfl, by simp [← hS], ?_⟩ (fun hc => absurd hc hn) (fun _ => rfl)⟩
    · unfold Instr.mapUpdate
      rw [run_bind, und_run hm w]
      simp only [Result.andThen_ok]
      rw [run_bind, getMap hg]
      simp only [Result.andThen_ok]
      rw [run_bind, KL.check w false hx]
      simp only [Result.andThen_ok]
      rw [run_bind, h1]
      simp only [Result.andThen_ok]
      exact setMap _ hg
    · intro e he
      simp only [Array.toList_push, List.mem_append, List.mem_singleton] at he
      rcases he with he | rfl
      · exact hall e he
      · exact ⟨rfl, lx, hx⟩
  · have hmem : e ∈ es.toList := List.mem_of_getElem? h2
    have hin : x ∈ S := by rw [← hS, ← h3]; exact List.mem_map.2 ⟨e, hmem, rfl⟩
    have hj : es[j]? = some e := by simpa using h2
    have hjl : j < es.size := (Array.getElem?_eq_some_iff.1 hj).1
    have hval : e.val = .bool true := (hall e hmem).1
    have hsame : es.modify j (fun e => { e with key := x, val := .bool true }) = es := by
      apply Array.ext
      · simp
      · intro i h1 h2'
        rw [Array.getElem_modify]
        split
        · rename_i hij
          subst hij
          have : es[j] = e := (Array.getElem?_eq_some_iff.1 hj).2
          rw [this, ← h3, ← hval]
        · rfl
    refine ⟨(), _, I, _, ?_, .refl I, hw.setObj hb (.map es clock), h _ S ⟨es, clock, rfl, hS, hall⟩ (fun _ => rfl) (fun hc => absurd hin hc)⟩
    unfold Instr.mapUpdate
    rw [run_bind, und_run hm w]
    simp only [Result.andThen_ok]
    rw [run_bind, getMap hg]
    simp only [Result.andThen_ok]
    rw [run_bind, KL.check w false hx]
    simp only [Result.andThen_ok]
    rw [run_bind, h1]
    simp only [Result.andThen_ok, hj, Option.map_some, Option.getD_some]
    rw [run_bind, h3, KL.stays w hx]
    simp only [Result.andThen_ok]
    rw [hsame]
    exact setMap _ hg
end
theorem lit_ok {n : Int} (h0 : -9223372036854775808 ≤ n) (h1 : n ≤ 9223372036854775807) : litI n = some [.int .i64 n] := by
  have e1 : IntKind.i64.min = -9223372036854775808 := by decide
  have e2 : IntKind.i64.max = 9223372036854775807 := by decide
  have hw : (Lit.int .i64 n).wf = true := by
    simp only [Lit.wf, Bool.and_eq_true, decide_eq_true_eq, e1, e2]; exact ⟨h0, h1⟩
  exact if_pos ⟨rfl, hw⟩
theorem key_61 (a b : Int) (ha : -9223372036854775808 ≤ a ∧ a ≤ 9223372036854775807) (hb : -9223372036854775808 ≤ b ∧ b ≤ 9223372036854775807) : ∃ l, keyOf PP 61 (.agg #[vi a, vi b]) = some l := by
  rw [key_eq_61]; simp [lit_ok ha.1 ha.2, lit_ok hb.1 hb.2]
theorem key_43 (a b : Int) (ha : -9223372036854775808 ≤ a ∧ a ≤ 9223372036854775807) (hb : -9223372036854775808 ≤ b ∧ b ≤ 9223372036854775807) : ∃ l, keyOf PP 43 (.agg #[vi a, vi b]) = some l := by
  rw [key_eq_43]; simp [lit_ok ha.1 ha.2, lit_ok hb.1 hb.2]
end Go.Proofs.Ytibgbapeblicjaa
