/- What is made and handed out never changes again; reading lists of ints. -/
import Derived.Test.YtibgbapeblicjaaWj
set_option linter.unusedVariables false
namespace Go.Proofs.Ytibgbapeblicjaa
open Go
variable {P : Program}

def Dj (I : Imm) (H : PH) : Prop := ∀ b o, I.blk b = some o → H b = none
def Im (I : Imm) : BR := fun b o => I.blk b = some o
theorem Im_Bk (I : Imm) (H : PH) : SubB (Im I) (Bk I H) := fun _ _ h => .inr h
theorem Im_le {I I' : Imm} (h : I.le I') : SubB (Im I) (Im I') := fun b o e => h.blk b o e
theorem Sl.im {α : Type} {e : El α} {I I' : Imm} {v : Value} {xs : List α} (h : Sl e (Im I) v xs) (hle : I.le I') (H : PH) : Sl e (Bk I' H) v xs := h.mono fun b o e => .inr (hle.blk b o e)
theorem CallA.fin {f : FuncId} {args : List Value} {I : Imm} {H : PH} {K : KV} (h : CallA P f args I H (fun v I' H' => Dj I' H' → ∃ I2 H2, (∀ w, Sat I' H' w → Sat I2 H2 w) ∧ I'.le I2 ∧ K v I2 H2)) : CallA P f args I H K := by
  intro w hw
  have h1 := h w hw
  have key : ∀ e w', After I (fun v I' H' => Dj I' H' → ∃ I2 H2, (∀ w, Sat I' H' w → Sat I2 H2 w) ∧ I'.le I2 ∧ K v I2 H2) e w' → After I K e w' := by
    intro e w' he
    cases e with
    | returned v =>
      obtain ⟨I', H', h1, h2, h3⟩ := he
      obtain ⟨I2, H2, h3, h4, h5⟩ := h3 h2.dis
      exact ⟨I2, H2, h1.trans h4, h3 w' h2, h5⟩
    | panicked c => exact he
    | outgrown => exact he
  revert h1
  unfold UponCall
  cases (callFunc f args.toArray).run P w with
  | ok n w' =>
    cases n <;> first
      | exact id
      | exact fun h => key (.returned _) _ h
      | exact fun h => Calls.mono h key
  | halt x w' => exact id
def Imm.add (I : Imm) (g : Nat) (o : Obj) : Imm := ⟨upd I.blk g o, I.os, I.tape, I.output⟩
theorem Imm.le_add {I : Imm} {g : Nat} {o : Obj} (h : I.blk g = none) : I.le (I.add g o) :=
  ⟨fun b o' e => by
    have hne : b ≠ g := fun x => by subst x; rw [h] at e; cases e
    show upd I.blk g o b = some o'
    rw [upd_ne _ _ hne]; exact e, rfl, rfl, rfl⟩
theorem Sat.freeze {I : Imm} {H : PH} {w : World} {g : Nat} {o : Obj} (h : Sat I (upd H g o) w) (hg : H g = none) : Sat (I.add g o) H w := by
  refine ⟨fun c o' e => ?_, fun c o' e => ?_, fun c o' e => ?_, h.os, h.tape, h.output⟩
  · by_cases hc : c = g
    · subst hc
      have e' : upd I.blk c o c = some o' := e
      rw [upd_same] at e'; cases e'
      exact h.own c _ (upd_same _ _ _)
    · have e' : upd I.blk g o c = some o' := e
      rw [upd_ne _ _ hc] at e'; exact h.imm c _ e'
  · have hne : c ≠ g := fun x => by subst x; rw [hg] at e; cases e
    exact h.own c o' (by rw [upd_ne _ _ hne]; exact e)
  · by_cases hc : c = g
    · subst hc; exact hg
    · have e' : upd I.blk g o c = some o' := e
      rw [upd_ne _ _ hc] at e'
      have := h.dis c _ e'
      rw [upd_ne _ _ hc] at this; exact this
/-- A row that was built is handed out. -/
theorem Ro.freeze {α : Type} {e : En α} {E : TypeId} {H0 H : PH} {v : Value} {xs : List α} {I : Imm} (h : Ro e E H0 H v xs) (hd : Dj I H) :
    ∃ I2, (∀ w, Sat I H w → Sat I2 H0 w) ∧ I.le I2 ∧ Sl e.el (Im I2) v xs := by
  rcases h.open with ⟨rfl, rfl, rfl⟩ | ⟨g, cap, rest, rfl, rfl, h3, h4, _⟩
  · exact ⟨I, fun _ h => h, .refl I, Sl.nil _ _⟩
  · have hi : I.blk g = none := by
      cases hb : I.blk g with
      | none => rfl
      | some o => have := hd g o hb; rw [upd_same] at this; cases this
    exact ⟨I.add g (rowA e E xs rest), fun w hw => hw.freeze h3, Imm.le_add hi, sl_row (o := 0) e (show upd I.blk g _ g = _ from upd_same _ _ _) h4⟩
/-- the address of an int of a list -/
theorem p_iidx {T S : TypeId} {B : BR} {v : Value} {xs : List Int} (hu : P.underlying T = some (.slice S)) (ht : TyI P S false 1) (hs : Sl elInt B v xs) {k : IntKind} {i : Int} {K : Value → Prop} {x : Int} (h0 : 0 ≤ i) (hx : xs[i.toNat]? = some x)
    (h : ∀ b o, At B b o [vi x] → K (ptr b o)) : wPure P (Instr.indexAt T v (.int k i)) K :=
  p_sidx hu ht rfl hs h0 hx fun b o ⟨cs, hat, hc⟩ => h b o (by subst hc; exact hat)
theorem run_aidx {T S len s : Nat} {agg : Bool} (hu : P.underlying T = some (.array len S)) (ht : TyI P S agg s) {b o : Nat} {k : IntKind} {i : Int} (h0 : 0 ≤ i) (h1 : i < len) (w : World) :
    (Instr.indexAt T (ptr b o) (.int k i)).run P w = .ok (ptr b (o + i.toNat * s)) w := by
  unfold Instr.indexAt asIntOf Instr.sureAddr
  rw [run_bind, run_pure]
  simp only [Result.andThen_ok]
  rw [run_bind, und_run hu w]
  simp only [Result.andThen_ok]
  rw [run_bind, run_pure]
  simp only [Result.andThen_ok]
  rw [run_bind, run_pure]
  simp only [Result.andThen_ok]
  rw [run_bind, und_run hu w]
  simp only [Result.andThen_ok, h0, h1, and_self, if_true]
  rw [run_bind, ht.size w]
  simp only [Result.andThen_ok, run_pure, add_off]
theorem p_build {T : TypeId} {ps : Array (Nat × Value)} (cs : Array Value) {K : Value → Prop} (hb : P.built T ps.toList = some cs) (h : K (.agg cs)) : wPure P (Instr.build T ps) K :=
  p_gen (fun w => run_build w T ps cs hb) h
theorem ND.top {b : Nat} {o : Obj} {L : List (Nat × Obj)} {H : PH} (h : ND ((b, o) :: L) H) : upds L H b = none := by
  have h1 := h.nd
  simp only [List.map_cons, List.nodup_cons] at h1
  rw [upds_out h1.1]
  exact h.out _ (.head _)
theorem upd_upd (H : PH) (g : Nat) (o o' : Obj) : upd (upd H g o) g o' = upd H g o' := by
  funext x; by_cases hx : x = g
  · subst hx; rw [upd_same, upd_same]
  · rw [upd_ne _ _ hx, upd_ne _ _ hx, upd_ne _ _ hx]
theorem row_set {α : Type} (e : En α) {H0 : PH} {g : Nat} {E : TypeId} {l : List α} {rest : List Value} {i : Nat} {y : α} {v : Value} (hv : v.cells.toList = e.enc y) (hi : i < l.length) {o : Nat} (ho : o = i * e.n) :
    upd (upd H0 g (rowA e E l rest)) g (.cells (setN (encs e l ++ rest).toArray.toList o v.cells.toList).toArray E (0, 0)) = upd H0 g (rowA e E (l.set i y) rest) := by
  subst ho
  rw [upd_upd, hv, show (encs e l ++ rest).toArray.toList = encs e l ++ rest from rfl, encs_set e l i y rest hi]
/-- A store into a row. -/
theorem stQ_row {α : Type} (e : En α) {T : TypeId} {agg : Bool} (ht : TyI P T agg e.n) {H0 : PH} {g : Nat} {E : TypeId} {l : List α} {rest : List Value} {i : Nat} {y : α} {v : Value} (hv : v.cells.toList = e.enc y) (hi : i < l.length) {o : Nat} (ho : o = i * e.n)
    {I : Imm} {K : Unit → Imm → PH → Prop} (h : K () I (upd H0 g (rowA e E (l.set i y) rest))) : wActQ P (Instr.storeAt T (ptr g o) v) I none' (upd H0 g (rowA e E l rest)) K := by
  refine stQ ht.size (upd_same _ _ _) (by rw [← Array.length_toList, hv, e.len]) ?_ (by rw [hv]; simpa only [List.all_eq_true] using e.one y) ?_
  · subst ho
    simp only [List.size_toArray, List.length_append, encs_len]
    have := Nat.mul_le_mul_right e.n (show i + 1 ≤ l.length from hi)
    rw [Nat.add_mul] at this; omega
  · rw [row_set e hv hi ho]; exact h
theorem stG_row {α : Type} (e : En α) {T : TypeId} {agg : Bool} (ht : TyI P T agg e.n) {H0 : PH} {g : Nat} {E : TypeId} {l : List α} {rest : List Value} {i : Nat} {y : α} {v : Value} (hv : v.cells.toList = e.enc y) (hi : i < l.length) {o : Nat} (ho : o = i * e.n)
    {I : Imm} {K : Unit → Imm → PH → Prop} (h : K () I (upd H0 g (rowA e E (l.set i y) rest))) : wAct P (Instr.storeAt T (ptr g o) v) I (upd H0 g (rowA e E l rest)) K := by
  refine stG ht.size (upd_same _ _ _) (by rw [← Array.length_toList, hv, e.len]) ?_ (by rw [hv]; simpa only [List.all_eq_true] using e.one y) ?_
  · subst ho
    simp only [List.size_toArray, List.length_append, encs_len]
    have := Nat.mul_le_mul_right e.n (show i + 1 ≤ l.length from hi)
    rw [Nat.add_mul] at this; omega
  · rw [row_set e hv hi ho]; exact h
theorem run_sindex {T : TypeId} (hu : P.underlying T = some .string) {s : ByteArray} {k : IntKind} {n : Nat} {b : UInt8} (hb : s[n]? = some b) (w : World) : (Instr.index T (.string s) (.int k n)).run P w = .ok (.int .u8 b.toNat) w := by
  unfold Instr.index asIntOf
  rw [run_bind, run_pure]
  simp only [Result.andThen_ok]
  rw [run_bind, und_run hu w]
  simp only [Result.andThen_ok]
  rw [if_pos (by omega), Int.toNat_natCast, hb]
  rfl
theorem At_row {α : Type} (e : En α) {B : BR} {g : Nat} {E : TypeId} {l : List α} {rest : List Value} {i : Nat} {x : α} (hb : B g (rowA e E l rest)) (hx : l[i]? = some x) {o : Nat} (ho : o = i * e.n) : At B g o (e.enc x) := by
  subst ho
  refine ⟨_, _, _, hb, fun j v hj => ?_⟩
  have h2 := encs_at e l i x hx j v hj
  rw [List.getElem?_toArray, List.getElem?_append_left (List.getElem?_eq_some_iff.1 h2).1]; exact h2
theorem p_slice_lo {T S : TypeId} {s : Nat} {agg : Bool} (hu : P.underlying T = some (.slice S)) (ht : TyI P S agg s) {b o n c l : Nat} (h1 : l ≤ n) (h2 : l < c) (h3 : n ≤ c) {K : Value → Prop} (h : K (slv b (o + l * s) (n - l) (c - l))) :
    wPure P (Instr.sliceAt T (slv b o n c) (some (vi l)) none none) K := by
  refine p_gen (run_slice (l := l) (h := n) (m := c) hu ht rfl ⟨rfl, rfl⟩ rfl h1) ?_
  rw [if_neg (by omega)]
  simpa [add_off] using h
theorem p_slice_hi {T S : TypeId} {s : Nat} {agg : Bool} (hu : P.underlying T = some (.slice S)) (ht : TyI P S agg s) {b o n c m : Nat} (h1 : m ≤ c) {K : Value → Prop} (h : K (slv b o m c)) :
    wPure P (Instr.sliceAt T (slv b o n c) none (some (vi m)) none) K := by
  refine p_gen (run_slice (l := 0) (h := m) (m := c) hu ht rfl ⟨rfl, h1⟩ rfl (by omega)) ?_
  have : (if c = 0 then some (⟨b, o, none⟩ : Addr) else (some (⟨b, o, none⟩ : Addr)).map (·.add (0 * s))) = some ⟨b, o, none⟩ := by split <;> simp [add_off]
  rw [this]; exact h
theorem encs_take {α : Type} (e : En α) (xs : List α) (k : Nat) : (encs e xs).take (k * e.n) = encs e (xs.take k) := by
  by_cases hk : k ≤ xs.length
  · have h1 : encs e xs = encs e (xs.take k) ++ encs e (xs.drop k) := by rw [← encs_append, List.take_append_drop]
    have h2 : (encs e (xs.take k)).length = k * e.n := by rw [encs_len]; simp [Nat.min_eq_left hk]
    rw [h1, ← h2]; exact List.take_left
  · rw [List.take_of_length_le (by rw [encs_len]; exact Nat.mul_le_mul_right _ (by omega)), List.take_of_length_le (by omega)]
theorem ND.less {L : List (Nat × Obj)} {H H1 : PH} (h : ND L H) (hs : Sub H1 H) : ND L H1 := ⟨h.nd, fun p hp => by
  cases e : H1 p.1 with
  | none => rfl
  | some o => have := hs _ _ e; rw [h.out p hp] at this; cases this⟩
theorem upds_mono {H H1 : PH} (hs : Sub H1 H) : ∀ L : List (Nat × Obj), Sub (upds L H1) (upds L H)
  | [] => hs
  | p :: L => fun b o e => by
    simp only [upds] at e ⊢
    by_cases hb : b = p.1
    · subst hb; rw [upd_same] at e ⊢; exact e
    · rw [upd_ne _ _ hb] at e ⊢; exact upds_mono hs L b o e
theorem r_whole {T n : Nat} (ht : TyI P T true n) {I : Imm} {H : PH} {K : Value → Prop} {b : Nat} {arr : Array Value} {E : TypeId} {fr : Nat × Nat} (hb : Has I H b (.cells arr E fr)) (hn : arr.size = n) (h : K (.agg arr)) : wRead P (Instr.loadAt T (ptr b 0)) I H K :=
  ldN ht hb (cs := arr.toList) (by simpa using hn) (fun j v hj => by simpa using hj) (by simpa using h)
theorem jq {F : KL → Prop} {J : KL} (Q : KL) (h1 : ∀ J' : KL, (∀ vs I H, Q vs I H → J' vs I H) → F J') (h2 : ∀ vs I H, Q vs I H → J vs I H) : wJ F J := h1 J h2
theorem jn {F : KL → Prop} {J : KL} (h : F J) : wJ F J := h
theorem toNat_get {xs : List Int} {i : Int} (h0 : 0 ≤ i) (h1 : i < xs.length) : xs[i.toNat]? = some (xs.getD i.toNat 0) := by
  have : i.toNat < xs.length := by omega
  rw [List.getD_eq_getElem?_getD, List.getElem?_eq_getElem this]; rfl
theorem nat_get {xs : List Int} {i : Nat} (h1 : i < xs.length) : xs[(i : Int).toNat]? = some (xs.getD i 0) := by
  rw [Int.toNat_natCast, List.getD_eq_getElem?_getD, List.getElem?_eq_getElem h1]; rfl
end Go.Proofs.Ytibgbapeblicjaa
