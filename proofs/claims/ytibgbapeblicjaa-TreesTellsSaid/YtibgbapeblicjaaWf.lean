/- The calculus' laws for single operations: what each comes to, over a state written as a list of the call's own blocks over a base. -/
import Derived.Test.YtibgbapeblicjaaWd
import Derived.Laws.AppendOwn
import Derived.Laws.CopyRow
import Derived.Laws.Slices
set_option linter.unusedVariables false
namespace Go.Proofs.Ytibgbapeblicjaa
open Go
variable {P : Program}

abbrev ptr (b o : Nat) : Value := .pointer (some ⟨b, o, none⟩)
abbrev slv (b o n c : Nat) : Value := .slice (some ⟨b, o, none⟩) n c
def upds : List (Nat × Obj) → PH → PH
  | [], H => H
  | p :: L, H => upd (upds L H) p.1 p.2
structure ND (L : List (Nat × Obj)) (H : PH) : Prop where
  nd : (L.map (·.1)).Nodup
  out : ∀ p ∈ L, H p.1 = none
theorem ND.nil (H : PH) : ND [] H := ⟨by simp, by simp⟩

theorem upds_out {L : List (Nat × Obj)} {H : PH} {b : Nat} (h : b ∉ L.map (·.1)) : upds L H b = H b := by
  induction L with
  | nil => rfl
  | cons p L ih =>
    simp only [List.map_cons, List.mem_cons, not_or] at h
    simp only [upds]; rw [upd_ne _ _ h.1]; exact ih h.2
theorem upds_in {L : List (Nat × Obj)} {H : PH} (hnd : (L.map (·.1)).Nodup) {k b : Nat} {o : Obj} (h : L[k]? = some (b, o)) : upds L H b = some o := by
  induction L generalizing k with
  | nil => simp at h
  | cons p L ih =>
    simp only [List.map_cons, List.nodup_cons] at hnd
    cases k with
    | zero => simp at h; subst h; exact upd_same _ _ _
    | succ k =>
      simp at h
      have hm : b ∈ L.map (·.1) := List.mem_map.2 ⟨(b, o), List.mem_of_getElem? h, rfl⟩
      have hne : b ≠ p.1 := fun e => hnd.1 (e ▸ hm)
      simp only [upds]; rw [upd_ne _ _ hne]; exact ih hnd.2 h
theorem ND.get {L : List (Nat × Obj)} {H : PH} (h : ND L H) (k : Nat) {b : Nat} {o : Obj} (hk : L[k]? = some (b, o)) : upds L H b = some o := upds_in h.nd hk
theorem ND.cons {L : List (Nat × Obj)} {H : PH} (h : ND L H) {b : Nat} (o : Obj) (hb : upds L H b = none) : ND ((b, o) :: L) H := by
  have hm : b ∉ L.map (·.1) := fun hm => by
    obtain ⟨p, hp, e⟩ := List.mem_map.1 hm
    obtain ⟨k, hk⟩ := List.getElem?_of_mem hp
    have h1 : upds L H p.1 = some p.2 := upds_in (H := H) h.nd (k := k) (b := p.1) (o := p.2) (by rw [hk])
    have h2 : p.1 = b := e
    rw [h2, hb] at h1; cases h1
  refine ⟨by simp only [List.map_cons, List.nodup_cons]; exact ⟨hm, h.nd⟩, fun p hp => ?_⟩
  cases hp with
  | head => exact (upds_out (L := L) (H := H) hm).symm.trans hb
  | tail _ hp => exact h.out p hp
theorem ND.set {L : List (Nat × Obj)} {H : PH} (h : ND L H) {k b : Nat} {o : Obj} (o' : Obj) (hk : L[k]? = some (b, o)) : ND (L.set k (b, o')) H := by
  have e : (L.set k (b, o')).map (·.1) = L.map (·.1) := by
    apply List.ext_getElem?; intro i
    simp only [List.getElem?_map, List.getElem?_set]
    by_cases hi : k = i
    · subst hi
      have hlt : k < L.length := (List.getElem?_eq_some_iff.1 hk).1
      rw [if_pos rfl, if_pos hlt, hk]; rfl
    · simp [hi]
  refine ⟨by rw [e]; exact h.nd, fun p hp => ?_⟩
  have : p.1 ∈ L.map (·.1) := by rw [← e]; exact List.mem_map.2 ⟨p, hp, rfl⟩
  obtain ⟨q, hq, e2⟩ := List.mem_map.1 this
  rw [← e2]; exact h.out q hq
theorem ND.del {L : List (Nat × Obj)} {H : PH} (h : ND L H) (k : Nat) : ND (L.eraseIdx k) H := by
  exact ⟨h.nd.sublist ((List.eraseIdx_sublist _ _).map _), fun p hp => h.out p (List.mem_of_mem_eraseIdx hp)⟩
theorem upds_set {L : List (Nat × Obj)} {H : PH} (h : ND L H) {k b : Nat} {o : Obj} (o' : Obj) (hk : L[k]? = some (b, o)) : upds (L.set k (b, o')) H = upd (upds L H) b o' := by
  funext x
  by_cases hx : x = b
  · subst hx
    rw [upd_same]
    exact (h.set o' hk).get k (by rw [List.getElem?_set]; have hlt : k < L.length := (List.getElem?_eq_some_iff.1 hk).1; simp [hlt])
  · rw [upd_ne _ _ hx]
    clear h
    induction L generalizing k with
    | nil => rfl
    | cons p L ih =>
      cases k with
      | zero =>
        simp at hk
        simp only [List.set_cons_zero, upds]
        rw [hk]
        simp only []
        rw [upd_ne _ _ hx, upd_ne _ _ hx]
      | succ k =>
        simp only [List.set_cons_succ, upds]
        by_cases hp : x = p.1
        · subst hp; rw [upd_same, upd_same]
        · rw [upd_ne _ _ hp, upd_ne _ _ hp]; exact ih (by simpa using hk)
theorem upds_sub {L : List (Nat × Obj)} {H : PH} (h : ND L H) : ∀ b o, H b = some o → upds L H b = some o := by
  intro b o e
  rw [upds_out]; exact e
  intro hm
  obtain ⟨p, hp, e2⟩ := List.mem_map.1 hm
  have := h.out p hp
  rw [e2, e] at this; cases this
theorem upds_del_sub {L : List (Nat × Obj)} {H : PH} (h : ND L H) (k : Nat) : ∀ b o, upds (L.eraseIdx k) H b = some o → upds L H b = some o := by
  intro b o e
  by_cases hm : b ∈ (L.eraseIdx k).map (·.1)
  · obtain ⟨p, hp, e2⟩ := List.mem_map.1 hm
    obtain ⟨i, hi⟩ := List.getElem?_of_mem hp
    have h1 := (h.del k).get i (b := p.1) (o := p.2) (by rw [hi])
    obtain ⟨j, hj⟩ := List.getElem?_of_mem (List.mem_of_mem_eraseIdx hp)
    have h2 := h.get j (b := p.1) (o := p.2) (by rw [hj])
    rw [e2] at h1 h2; rw [h1] at e; cases e; exact h2
  · rw [upds_out hm] at e; exact upds_sub h b o e

def Has (I : Imm) (H : PH) (b : Nat) (o : Obj) : Prop := H b = some o ∨ I.blk b = some o
theorem Sat.has {I : Imm} {H : PH} {w : World} (h : Sat I H w) {b : Nat} {o : Obj} (hb : Has I H b o) : w.heap[b]? = some o := hb.elim (h.own b o) (h.imm b o)

/-! ### Makers -/
theorem mk_gen {s : Sem Value} {I : Imm} {L : List (Nat × Obj)} {H : PH} {K : Value → PH → Prop} {f : Nat → Value} {o : Obj} (hnd : ND L H)
    (hr : ∀ w, s.run P w = .ok (f w.heap.size) (w.alloc o)) (h : ∀ b, I.blk b = none → ND ((b, o) :: L) H → K (f b) (upds ((b, o) :: L) H)) : wMake P s I (upds L H) K :=
  ⟨f, o, hr, fun b h1 h2 => h b h1 (hnd.cons o h2)⟩
theorem mk_box {T : TypeId} {v : Value} {I : Imm} {L : List (Nat × Obj)} {H : PH} {K : Value → PH → Prop} (hnd : ND L H)
    (h : ∀ b, I.blk b = none → ND ((b, .cells v.cells T) :: L) H → K (ptr b 0) (upds ((b, .cells v.cells T) :: L) H)) : wMake P (Instr.box T v) I (upds L H) K :=
  mk_gen (f := fun b => ptr b 0) hnd (fun _ => rfl) h
def ZeroIs (P : Program) (T : TypeId) (z : Value) : Prop := ∀ w, (zeroValue T).run P w = .ok z w
theorem mk_alloc {T : TypeId} {z : Value} (hz : ZeroIs P T z) {I : Imm} {L : List (Nat × Obj)} {H : PH} {K : Value → PH → Prop} (hnd : ND L H)
    (h : ∀ b, I.blk b = none → ND ((b, .cells z.cells T) :: L) H → K (ptr b 0) (upds ((b, .cells z.cells T) :: L) H)) : wMake P (Instr.alloc T true (.tuple #[])) I (upds L H) K := by
  refine mk_gen (f := fun b => ptr b 0) hnd (fun w => ?_) h
  unfold Instr.alloc
  rw [run_bind, hz w]; rfl
theorem mkD_gen {s : Sem Value} {I : Imm} {L : List (Nat × Obj)} {H Ha : PH} {K : Value → PH → Prop} {f : Nat → Value} {o : Obj} (hnd : ND L H)
    (hr : ∀ w, s.run P w = .ok (f w.heap.size) (w.alloc o)) (h : ∀ b, I.blk b = none → ND ((b, o) :: L) H → K (f b) (upds ((b, o) :: L) H)) : wMakeD P s I (upds L H) Ha K :=
  ⟨f, o, hr, fun b h1 h2 _ => h b h1 (hnd.cons o h2)⟩
theorem mkD_box {T : TypeId} {v : Value} {I : Imm} {L : List (Nat × Obj)} {H Ha : PH} {K : Value → PH → Prop} (hnd : ND L H)
    (h : ∀ b, I.blk b = none → ND ((b, .cells v.cells T) :: L) H → K (ptr b 0) (upds ((b, .cells v.cells T) :: L) H)) : wMakeD P (Instr.box T v) I (upds L H) Ha K :=
  mkD_gen (f := fun b => ptr b 0) hnd (fun _ => rfl) h
theorem mkD_alloc {T : TypeId} {z : Value} (hz : ZeroIs P T z) {I : Imm} {L : List (Nat × Obj)} {H Ha : PH} {K : Value → PH → Prop} (hnd : ND L H)
    (h : ∀ b, I.blk b = none → ND ((b, .cells z.cells T) :: L) H → K (ptr b 0) (upds ((b, .cells z.cells T) :: L) H)) : wMakeD P (Instr.alloc T true (.tuple #[])) I (upds L H) Ha K := by
  refine mkD_gen (f := fun b => ptr b 0) hnd (fun w => ?_) h
  unfold Instr.alloc
  rw [run_bind, hz w]; rfl

/-! ### Types -/
structure TyI (P : Program) (T : TypeId) (agg : Bool) (n : Nat) : Prop where
  agg : ∀ w, (isAgg T).run P w = .ok agg w
  size : ∀ w, (sizeOf T).run P w = .ok n w
def aggD : TypeDesc → Bool
  | .struct _ | .array _ _ => true
  | _ => false
theorem und_run {T : TypeId} {d : TypeDesc} (hu : P.underlying T = some d) (w : World) : (underlying T).run P w = .ok d w := by
  unfold underlying; rw [run_bind]; simp [program, Sem.run, hu]
theorem TyI.mk' {T : TypeId} {agg : Bool} {n : Nat} (ha : (P.underlying T).map aggD = some agg) (hs : (P.info? T).map (·.size) = some n) : TyI P T agg n := by
  obtain ⟨d, hu, rfl⟩ := Option.map_eq_some_iff.1 ha
  obtain ⟨i, hi, rfl⟩ := Option.map_eq_some_iff.1 hs
  refine ⟨fun w => ?_, fun w => ?_⟩
  · unfold isAgg; rw [run_bind, und_run hu w]; cases d <;> rfl
  · unfold sizeOf typeInfo; rw [run_bind, run_bind]; simp [program, Sem.run, hi]
theorem ZeroIs.mk' {T : TypeId} {z : Value} (h : (P.info? T).map (·.zero) = some (some z)) : ZeroIs P T z := by
  obtain ⟨i, hi, hz⟩ := Option.map_eq_some_iff.1 h
  intro w
  unfold zeroValue typeInfo; rw [run_bind, run_bind]; simp [program, Sem.run, hi, hz]

theorem add_off (b o n : Nat) : (⟨b, o, none⟩ : Addr).add n = ⟨b, o + n, none⟩ := by
  unfold Addr.add; split
  · rename_i h; subst h; rfl
  · rfl

/-! ### Pure operations -/
theorem p_gen {s : Sem Value} {K : Value → Prop} {v : Value} (hr : ∀ w, s.run P w = .ok v w) (h : K v) : wPure P s K := ⟨v, hr, h⟩
theorem run_field {T f : Nat} {fs : Array Field} {fl : Field} {agg : Bool} {n : Nat} (hu : P.underlying T = some (.struct fs)) (hf : fs[f]? = some fl) (ht : TyI P fl.type agg n) (hn : n ≠ 0) (b o : Nat) (w : World) :
    (Instr.fieldAt T (ptr b o) f).run P w = .ok (ptr b (o + fl.offset)) w := by
  unfold Instr.fieldAt Instr.sureAddr
  rw [run_bind, und_run hu w]
  simp only [Result.andThen_ok, hf]
  rw [run_bind]
  simp only [run_pure, Result.andThen_ok, fieldPlace]
  rw [run_bind, run_bind, ht.size w]
  simp only [Result.andThen_ok, hn, if_false, run_pure, add_off]
theorem run_extract {vs : Array Value} {i : Nat} {v : Value} (h : vs[i]? = some v) (w : World) : (Instr.extract (.tuple vs) i).run P w = .ok v w := by
  unfold Instr.extract; simp only [h]; rfl
theorem run_pick (b : Bool) (x y : Value) (w : World) : (semPick (.bool b) x y).run P w = .ok (cond b x y) w := by
  cases b <;> rfl
theorem run_not (b : Bool) (w : World) : (Op.unary .not (.bool b)).run P w = .ok (.bool !b) w := rfl
theorem run_binI {op : BinOp} {T : TypeId} {xc yc : Bool} {k : IntKind} {a b : Int} {v : Value} (h : (match op with
    | .add | .sub | .mul => Op.intArith op k a b
    | .eql | .neq | .lss | .leq | .gtr | .geq => Op.intCmp op a b
    | _ => stuck "") = pure v) (w : World) : (semBin op T xc yc (.int k a) (.int k b)).run P w = .ok v w := by
  have hg : (eqGuard op T (cond xc (.const (.int k a)) (.tmp 0)) (cond yc (.const (.int k b)) (.tmp 0)) (.int k a) (.int k b)).run P w = .ok () w := by
    unfold eqGuard
    split <;> rfl
  unfold semBin
  rw [run_bind, hg]
  simp only [Result.andThen_ok]
  have e : ∀ s t : Sem Value, s = t → t.run P w = .ok v w → s.run P w = .ok v w := fun s t h1 h2 => h1 ▸ h2
  refine e _ _ ?_ (show (pure v : Sem Value).run P w = .ok v w from rfl)
  rw [← h]
  cases op <;> simp [binOp] <;> first | done | rfl | (simp [stuck] at h; done) | (simp [stuck] at h; cases h)
section
variable {T : TypeId} {xc yc : Bool} {k : IntKind} (a b : Int) (w : World)
theorem run_add : (semBin .add T xc yc (.int k a) (.int k b)).run P w = .ok (.int k (k.wrap (a + b))) w := run_binI rfl w
theorem run_sub : (semBin .sub T xc yc (.int k a) (.int k b)).run P w = .ok (.int k (k.wrap (a - b))) w := run_binI rfl w
theorem run_mul : (semBin .mul T xc yc (.int k a) (.int k b)).run P w = .ok (.int k (k.wrap (a * b))) w := run_binI rfl w
theorem run_eql : (semBin .eql T xc yc (.int k a) (.int k b)).run P w = .ok (.bool (decide (a = b))) w := run_binI rfl w
theorem run_neq : (semBin .neq T xc yc (.int k a) (.int k b)).run P w = .ok (.bool (!decide (a = b))) w := run_binI rfl w
theorem run_lss : (semBin .lss T xc yc (.int k a) (.int k b)).run P w = .ok (.bool (decide (a < b))) w := run_binI rfl w
theorem run_leq : (semBin .leq T xc yc (.int k a) (.int k b)).run P w = .ok (.bool (decide (a ≤ b))) w := run_binI rfl w
theorem run_gtr : (semBin .gtr T xc yc (.int k a) (.int k b)).run P w = .ok (.bool (decide (b < a))) w := run_binI rfl w
theorem run_geq : (semBin .geq T xc yc (.int k a) (.int k b)).run P w = .ok (.bool (decide (b ≤ a))) w := run_binI rfl w
end
end Go.Proofs.Ytibgbapeblicjaa
