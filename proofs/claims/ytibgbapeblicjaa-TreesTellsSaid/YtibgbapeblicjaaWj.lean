/- Laws: guards over any test, remainders, stores in drawn regions, rows of encoded elements, clear; parts of the state may be let go. -/
import Derived.Test.YtibgbapeblicjaaWi
set_option linter.unusedVariables false
namespace Go.Proofs.Ytibgbapeblicjaa
open Go
variable {P : Program}

/-! ### Guards, picks -/
section
variable {b w : Bool} {F : KV → Prop} {K : KV} {I : Imm} {H : PH} {FD : KD → Prop} {KD' : KD} {Hs Ha : PH}
theorem g_do (h : b = w) (hF : F K) : wGuard (.bool b) w F K I H := .inl ⟨b, rfl, fun _ => hF, fun e => by subst h; cases b <;> cases e⟩
theorem g_skip (h : b = !w) (hK : K undef I H) : wGuard (.bool b) w F K I H := .inl ⟨b, rfl, (fun e => by subst e; cases b <;> cases h), fun _ => hK⟩
theorem gD_do (h : b = w) (hF : FD KD') : wGuardD (.bool b) w FD KD' I Hs Ha := .inl ⟨b, rfl, fun _ => hF, fun e => by subst h; cases b <;> cases e⟩
theorem gD_skip (h : b = !w) (hK : KD' undef I Hs Ha) : wGuardD (.bool b) w FD KD' I Hs Ha := .inl ⟨b, rfl, (fun e => by subst e; cases b <;> cases h), fun _ => hK⟩
theorem g_no {w : Bool} (hK : K undef I H) : wGuard undef w F K I H := .inr ⟨rfl, hK⟩
theorem gD_no {w : Bool} (hK : KD' undef I Hs Ha) : wGuardD undef w FD KD' I Hs Ha := .inr ⟨rfl, hK⟩
theorem p_pick_t {b : Bool} {x y : Value} {K : Value → Prop} (e : b = true) (h : K x) : wPure P (semPick (.bool b) x y) K := by subst e; exact p_pick h
theorem p_pick_f {b : Bool} {x y : Value} {K : Value → Prop} (e : b = false) (h : K y) : wPure P (semPick (.bool b) x y) K := by subst e; exact p_pick h
theorem if_1 {b : Bool} {A B : Prop} (e : b = true) (ha : A) : wIf (.bool b) A B := ⟨_, rfl, fun _ => ha, fun h => by rw [e] at h; cases h⟩
theorem if_0 {b : Bool} {A B : Prop} (e : b = false) (hb : B) : wIf (.bool b) A B := ⟨_, rfl, (fun h => by rw [e] at h; cases h), fun _ => hb⟩
end

/-! ### Remainders, quotients, conversions of ints -/
theorem run_rem {T : TypeId} {xc yc : Bool} {k : IntKind} (a b : Int) (hb : b ≠ 0) (w : World) : (semBin .rem T xc yc (.int k a) (.int k b)).run P w = .ok (.int k (a.tmod b)) w := by
  have hg : (eqGuard .rem T (cond xc (.const (.int k a)) (.tmp 0)) (cond yc (.const (.int k b)) (.tmp 0)) (.int k a) (.int k b)).run P w = .ok () w := by
    unfold eqGuard
    split <;> rfl
  unfold semBin
  rw [run_bind, hg]
  simp only [Result.andThen_ok]
  simp [binOp, Op.intDiv, hb]
theorem run_quo {T : TypeId} {xc yc : Bool} {k : IntKind} (a b : Int) (hb : b ≠ 0) (w : World) : (semBin .quo T xc yc (.int k a) (.int k b)).run P w = .ok (.int k (k.wrap (a.tdiv b))) w := by
  have hg : (eqGuard .quo T (cond xc (.const (.int k a)) (.tmp 0)) (cond yc (.const (.int k b)) (.tmp 0)) (.int k a) (.int k b)).run P w = .ok () w := by
    unfold eqGuard
    split <;> rfl
  unfold semBin
  rw [run_bind, hg]
  simp only [Result.andThen_ok]
  simp [binOp, Op.intDiv, hb]
theorem run_conv {S T : TypeId} {j k k' : IntKind} (hs : P.underlying S = some (.int j)) (ht : P.underlying T = some (.int k)) (a : Int) (w : World) : (convert S T (.int k' a)).run P w = .ok (.int k (k.wrap a)) w := by
  unfold convert
  rw [run_bind, und_run hs w]
  simp only [Result.andThen_ok]
  rw [run_bind, und_run ht w]
  simp only [Result.andThen_ok, Conv.intToInt, run_pure]
theorem p_wrap {s : Sem Value} {K : Value → Prop} {a : Int} (hr : ∀ w, s.run P w = .ok (.int .i64 (IntKind.i64.wrap a)) w) (h0 : -9223372036854775808 ≤ a) (h1 : a ≤ 9223372036854775807) (h : K (vi a)) : wPure P s K :=
  p_gen hr (by rw [wrap_in h0 h1]; exact h)
theorem p_mul {T : TypeId} {xc yc : Bool} {a b : Int} {K : Value → Prop} (h0 : -9223372036854775808 ≤ a * b) (h1 : a * b ≤ 9223372036854775807) (h : K (vi (a * b))) : wPure P (semBin .mul T xc yc (vi a) (vi b)) K :=
  p_wrap (run_mul a b) h0 h1 h

/-! ### Parts of the state may be let go -/
theorem wAct.less {α : Type} {s : Sem α} {I : Imm} {H H1 : PH} {K : α → Imm → PH → Prop} (hs : Sub H1 H) (h : wAct P s I H1 K) : wAct P s I H K := fun w hw => h w (hw.less hs)
theorem CallA.less {f : FuncId} {args : List Value} {I : Imm} {H H1 : PH} {K : KV} (hs : Sub H1 H) (h : CallA P f args I H1 K) : CallA P f args I H K := fun w hw => h w (hw.less hs)
theorem wCall.less {fv : Value} {args : List Value} {I : Imm} {H H1 : PH} {K : KV} (hs : Sub H1 H) (h : wCall P fv args I H1 K) : wCall P fv args I H K := by
  obtain ⟨f, a, b, h1, h2⟩ := h
  exact ⟨f, a, b, h1, h2.less hs⟩

/-! ### Stores in drawn regions -/
theorem join_none' (H : PH) : join none' H = H := by funext b; simp [join, none']
theorem keep_none {H : PH} {F : PH → PH → Prop} (h : F none' H) : wKeep H F := ⟨fun _ => false, h⟩
theorem in_own {I : Imm} {H : PH} {F : Imm → PH → Prop} (h : F I H) : wIn I (join none' H) F := by unfold wIn; rw [join_none']; exact h
theorem rd_own {s : Sem Value} {I : Imm} {H : PH} {K : Value → Prop} (h : wRead P s I H K) : wRead P s I (join none' H) K := by rw [join_none']; exact h
theorem Sat.set_join {I : Imm} {Hs H : PH} {w : World} (h : Sat I (join Hs H) w) {b : Nat} {arr : Array Value} {E : TypeId} {fr : Nat × Nat} (hb : H b = some (.cells arr E fr)) (cs : Array Value) : Sat I (join Hs (upd H b (.cells cs E fr))) (w.setRow b cs) := by
  have e : join Hs (upd H b (.cells cs E fr)) = upd (join Hs H) b (.cells cs E fr) := by
    funext x
    by_cases hx : x = b
    · subst hx; simp [join, upd_same]
    · simp [join, upd_ne _ _ hx]
  rw [e]
  exact h.setRow (arr := arr) (by simp [join, hb]) cs
theorem stQ {T n : Nat} (ht : ∀ w, (sizeOf T).run P w = .ok n w) {I : Imm} {H : PH} {K : Unit → Imm → PH → Prop} {b o : Nat} {arr : Array Value} {E : TypeId} {v : Value}
    (hb : H b = some (.cells arr E (0, 0))) (hn : v.cells.size = n) (hfit : o + n ≤ arr.size) (h1 : ∀ x ∈ v.cells.toList, x.oneCell' = true)
    (h : K () I (upd H b (.cells (setN arr.toList o v.cells.toList).toArray E (0, 0)))) : wActQ P (Instr.storeAt T (ptr b o) v) I none' H K := by
  refine ⟨fun _ I' Ha' => I' = I ∧ Ha' = upd H b (.cells (setN arr.toList o v.cells.toList).toArray E (0, 0)), fun Hs w hs hd hw => ?_, fun _ I' Ha' _ _ ⟨h2, h3⟩ => by subst h2 h3; exact h⟩
  have hg : w.heap[b]? = some (.cells arr E (0, 0)) := hw.own b _ (by simp [join, hb])
  refine ⟨(), _, I, _, run_storeN ht hg hn hfit h1, .refl I, ?_, hw.set_join hb _, rfl, rfl⟩
  refine ⟨fun c o' e => ?_, fun c o' e => ?_⟩
  · obtain ⟨h2, h3⟩ := hd.1 c o' e
    refine ⟨h2, ?_⟩
    have hne : c ≠ b := fun x => by subst x; rw [h3] at hb; cases hb
    rw [upd_ne _ _ hne]; exact h3
  · have h2 := hd.2 c o' e
    have hne : c ≠ b := fun x => by subst x; rw [h2] at hb; cases hb
    rw [upd_ne _ _ hne]; exact h2

/-! ### Rows of encoded elements -/
def encs {α : Type} (e : En α) (xs : List α) : List Value := xs.flatMap e.enc
theorem encs_len {α : Type} (e : En α) (xs : List α) : (encs e xs).length = xs.length * e.n := by
  induction xs with
  | nil => simp [encs]
  | cons x xs ih => simp only [encs, List.flatMap_cons, List.length_append, List.length_cons, Nat.add_mul] at ih ⊢; rw [ih, e.len]; omega
theorem encs_append {α : Type} (e : En α) (xs ys : List α) : encs e (xs ++ ys) = encs e xs ++ encs e ys := by simp [encs]
theorem encs_one {α : Type} (e : En α) (xs : List α) : ∀ v ∈ encs e xs, v.oneCell' = true := by
  intro v hv
  simp only [encs, List.mem_flatMap] at hv
  obtain ⟨x, _, h⟩ := hv
  exact List.all_eq_true.1 (e.one x) v h
theorem encs_at {α : Type} (e : En α) : ∀ (xs : List α) (i : Nat) (x : α), xs[i]? = some x → ∀ j v, (e.enc x)[j]? = some v → (encs e xs)[i * e.n + j]? = some v
  | x :: xs, 0, y, h, j, v, hj => by
    simp at h; subst h
    have hlt : j < (e.enc x).length := (List.getElem?_eq_some_iff.1 hj).1
    simp only [encs, List.flatMap_cons, Nat.zero_mul, Nat.zero_add]
    rw [List.getElem?_append_left hlt]; exact hj
  | x :: xs, i + 1, y, h, j, v, hj => by
    have ih := encs_at e xs i y (by simpa using h) j v hj
    simp only [encs, List.flatMap_cons] at ih ⊢
    rw [List.getElem?_append_right (by rw [e.len, Nat.add_mul]; omega), e.len]
    rw [show (i + 1) * e.n + j - e.n = i * e.n + j from by rw [Nat.add_mul]; omega]
    exact ih
theorem encs_set {α : Type} (e : En α) : ∀ (xs : List α) (i : Nat) (x : α) (rest : List Value), i < xs.length → setN (encs e xs ++ rest) (i * e.n) (e.enc x) = encs e (xs.set i x) ++ rest
  | y :: xs, 0, x, rest, _ => by
    simp [setN, encs, e.len]
  | y :: xs, i + 1, x, rest, h => by
    have ih := encs_set e xs i x rest (by simpa using h)
    simp only [setN, encs, List.flatMap_cons, List.set_cons_succ, List.append_assoc] at ih ⊢
    rw [← ih]
    have e1 : (i + 1) * e.n = (e.enc y).length + i * e.n := by rw [e.len, Nat.add_mul]; omega
    have e2 : (i + 1) * e.n + (e.enc x).length = (e.enc y).length + (i * e.n + (e.enc x).length) := by rw [e.len, e.len, Nat.add_mul]; omega
    rw [e2, e1, List.take_length_add_append, List.drop_length_add_append]
    simp [List.append_assoc]

abbrev rowA {α : Type} (e : En α) (E : TypeId) (xs : List α) (rest : List Value) : Obj := .cells (encs e xs ++ rest).toArray E (0, 0)
def Ro {α : Type} (e : En α) (E : TypeId) (H0 H : PH) (v : Value) (xs : List α) : Prop := RowS H0 H E e.n v xs.length (encs e xs)
theorem Ro.sub {α : Type} {e : En α} {E : TypeId} {H0 H : PH} {v : Value} {xs : List α} (h : Ro e E H0 H v xs) : Sub H0 H := RowS.sub h
theorem Ro.nil {α : Type} (e : En α) (E : TypeId) (H : PH) : Ro e E H H (.slice none 0 0) ([] : List α) := RowS.nil H E e.n
theorem Ro.open {α : Type} {e : En α} {E : TypeId} {H0 H : PH} {v : Value} {xs : List α} (h : Ro e E H0 H v xs) :
    (v = .slice none 0 0 ∧ xs = [] ∧ H = H0) ∨ ∃ g cap rest, v = slv g 0 xs.length cap ∧ H = upd H0 g (rowA e E xs rest) ∧ H0 g = none ∧ xs.length ≤ cap ∧ cap ≤ maxLen ∧ xs.length * e.n + rest.length = cap * e.n := by
  rcases h.2 with ⟨h1, h2, h3⟩ | ⟨g, cap, cur, rfl, rfl, h3, h4, h5, h6, h7⟩
  · exact .inl ⟨h1, List.eq_nil_of_length_eq_zero h2, h3⟩
  · refine .inr ⟨g, cap, cur.toList.drop (xs.length * e.n), rfl, ?_, h3, h4, h5, ?_⟩
    · have : cur = (encs e xs ++ cur.toList.drop (xs.length * e.n)).toArray := by
        apply Array.ext'
        show cur.toList = encs e xs ++ cur.toList.drop (xs.length * e.n)
        rw [← h7, List.take_append_drop]
      exact congrArg (fun x => upd H0 g (.cells x E (0, 0))) this
    · have := Nat.mul_le_mul_right e.n h4
      simp only [List.length_drop, Array.length_toList]; omega
theorem Ro.mk {α : Type} {e : En α} {E : TypeId} {H0 : PH} {g cap : Nat} {xs : List α} {rest : List Value} (h3 : H0 g = none) (h4 : xs.length ≤ cap) (h5 : cap ≤ maxLen) (h6 : xs.length * e.n + rest.length = cap * e.n) :
    Ro e E H0 (upd H0 g (rowA e E xs rest)) (slv g 0 xs.length cap) xs :=
  ⟨encs_len e xs, .inr ⟨g, cap, _, rfl, rfl, h3, h4, h5, by simp [encs_len, h6], by show List.take _ (encs e xs ++ rest) = _; rw [← encs_len e xs]; exact List.take_left⟩⟩
theorem sl_row {α : Type} (e : En α) {E : TypeId} {B : BR} {g cap o : Nat} {xs : List α} {rest : List Value} (hb : B g (rowA e E xs rest)) (hc : xs.length ≤ cap) : Sl e.el B (slv g 0 xs.length cap) xs :=
  Sl.lit hb _ _ rfl hc 0 fun i x hx => ⟨e.enc x, fun j v hj => by
    have h2 := encs_at e xs i x hx j v hj
    have hlt := (List.getElem?_eq_some_iff.1 h2).1
    show (encs e xs ++ rest).toArray[0 + i * e.n + j]? = some v
    rw [List.getElem?_toArray, Nat.zero_add, List.getElem?_append_left hlt]; exact h2, rfl⟩
theorem Ro.sl {α : Type} {e : En α} {E : TypeId} {H0 H : PH} {v : Value} {xs : List α} (h : Ro e E H0 H v xs) {B : BR} (hB : ∀ b o, H b = some o → B b o) : Sl e.el B v xs := by
  rcases h.open with ⟨rfl, rfl, rfl⟩ | ⟨g, cap, rest, rfl, rfl, h3, h4, _⟩
  · exact Sl.nil _ _
  · exact sl_row (o := 0) e (hB g _ (upd_same _ _ _)) h4
theorem Ro.len_le {α : Type} {e : En α} {E : TypeId} {H0 H : PH} {v : Value} {xs : List α} (h : Ro e E H0 H v xs) : xs.length ≤ maxLen := by
  rcases h.open with ⟨_, rfl, _⟩ | ⟨g, cap, rest, _, _, _, h4, h5, _⟩
  · simp
  · omega
/-- append(out, x), x in a literal of one. -/
theorem ap_en {α : Type} {e : En α} {T E bytes ty : Nat} {i : TypeInfo} {z : Value} (hT : RowTy P T E e.n bytes i z) {H0 H : PH} {v : Value} {xs : List α} (hr : Ro e E H0 H v xs) {b c : Nat} {news : Array Value} {fr : Nat × Nat} {I : Imm} {K : Value → Imm → PH → Prop}
    (ys : List α) (m : Nat) (hb : H b = none) (hn : news.toList = encs e ys) (hm : ys.length = m) (h63 : xs.length + m ≤ 1099511627776) (hby : bytes ≤ 128)
    (h : ∀ v' H', Ro e E H0 H' v' (xs ++ ys) → K v' I H') : wAct P (Builtin.append_ #[T, T] ty #[v, slv b 0 m c]) I (upd H b (.cells news E fr)) K := by
  subst hm
  refine ap_one hT hr hb (by rw [← Array.length_toList, hn, encs_len]) (by rw [hn]; simpa only [List.all_eq_true] using encs_one e ys) h63 hby fun v' H' h' => h v' H' ?_
  unfold Ro
  rw [encs_append, List.length_append, ← hn]; exact h'
/-! ### clear -/
theorem run_clear {T E s bytes ty : Nat} {i : TypeInfo} {z : Value} (hT : RowTy P T E s bytes i z) (hz : ZeroIs P E z) (hz1 : ∀ v ∈ z.cells.toList, v.oneCell' = true) {w : World} {g o n c : Nat} {arr : Array Value} (hg : w.heap[g]? = some (.cells arr E (0, 0))) (hfit : o + n * s ≤ arr.size) :
    ∃ zs : List Value, zs.length = n * s ∧ (Builtin.clear_ #[T] ty #[slv g o n c]).run P w = .ok (.tuple #[]) (w.setRow g (setN arr.toList o zs).toArray) := by
  refine ⟨(Builtin.zeroCells z.cells n).toList, by simp [size_zeroCells, hT.zs], ?_⟩
  by_cases hn : n = 0
  · subst hn
    have e0 : (Builtin.zeroCells z.cells 0).toList = [] := List.eq_nil_of_length_eq_zero (by simp [size_zeroCells])
    rw [e0]
    have : (setN arr.toList o []).toArray = arr := by simp [setN]
    rw [this, setRow_self w g arr E (0, 0) hg]
    simp [Builtin.clear_, run_underlying hT.und]
  · unfold Builtin.clear_
    simp only [List.getElem?_toArray, List.getElem?_cons_zero]
    rw [run_bind, und_run hT.und w]
    obtain ⟨n, rfl⟩ := Nat.exists_eq_succ_of_ne_zero hn
    simp only [Result.andThen_ok]
    rw [run_bind, hz w]
    simp only [Result.andThen_ok]
    have h1 : ∀ v ∈ (Builtin.zeroCells z.cells (n + 1)).toList, v.oneCell' = true := by
      intro v hv
      simp only [Builtin.zeroCells, Array.toList_map, List.mem_map, Array.toList_range, List.mem_range] at hv
      obtain ⟨j, hj, rfl⟩ := hv
      apply hz1
      have hlt : j % z.cells.size < z.cells.size := Nat.mod_lt _ (by rw [hT.zs]; exact hT.pos)
      rw [getElem!_pos z.cells _ hlt]
      simp
    have := run_storeCells_at P g o E (Builtin.zeroCells z.cells (n + 1)).toList 0 arr w hg (by simp [size_zeroCells, hT.zs]; omega) h1
    rw [run_bind, this]
    simp only [Result.andThen_ok, setN, Nat.add_zero]
    rfl
theorem ac_clear {T E s bytes ty : Nat} {i : TypeInfo} {z : Value} (hT : RowTy P T E s bytes i z) (hz : ZeroIs P E z) (hz1 : z.cells.toList.all (·.oneCell') = true) {I : Imm} {H : PH} {K : Value → Imm → PH → Prop} {g o n c : Nat} {arr : Array Value}
    (hb : H g = some (.cells arr E (0, 0))) (hfit : o + n * s ≤ arr.size) (h : ∀ zs : List Value, zs.length = n * s → K (.tuple #[]) I (upd H g (.cells (setN arr.toList o zs).toArray E (0, 0)))) : wAct P (Builtin.clear_ #[T] ty #[slv g o n c]) I H K := by
  intro w hw
  obtain ⟨zs, h1, h2⟩ := run_clear (ty := ty) (n := n) (c := c) (o := o) hT hz (by simpa only [List.all_eq_true] using hz1) (hw.own g _ hb) hfit
  exact ⟨_, _, I, _, h2, .refl I, hw.setRow hb _, h zs h1⟩
end Go.Proofs.Ytibgbapeblicjaa
