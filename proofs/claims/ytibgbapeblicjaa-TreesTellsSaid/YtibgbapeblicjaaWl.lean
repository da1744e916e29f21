/- Rows as parts of the call's own blocks; append of a whole list; empty literals. -/
import Derived.Test.YtibgbapeblicjaaWk
set_option linter.unusedVariables false
namespace Go.Proofs.Ytibgbapeblicjaa
open Go
variable {P : Program}

theorem ND.mem {L : List (Nat × Obj)} {H : PH} (h : ND L H) {b : Nat} {o : Obj} (hm : (b, o) ∈ L) : upds L H b = some o := by
  obtain ⟨k, hk⟩ := List.getElem?_of_mem hm
  exact h.get k hk
theorem ND.perm {L L' : List (Nat × Obj)} {H : PH} (h : ND L H) (hp : L.Perm L') : ND L' H :=
  ⟨(hp.map (·.1)).nodup_iff.1 h.nd, fun p hm => h.out p (hp.mem_iff.2 hm)⟩
theorem upds_perm {L L' : List (Nat × Obj)} {H : PH} (h : ND L H) (hp : L.Perm L') : upds L H = upds L' H := by
  funext b
  by_cases hb : b ∈ L.map (·.1)
  · obtain ⟨p, hm, rfl⟩ := List.mem_map.1 hb
    rw [h.mem (b := p.1) (o := p.2) hm, (h.perm hp).mem (b := p.1) (o := p.2) (hp.mem_iff.1 hm)]
  · rw [upds_out hb, upds_out (fun h' => hb ((hp.map (·.1)).mem_iff.2 h'))]
theorem upds_append (L L' : List (Nat × Obj)) (H : PH) : upds (L ++ L') H = upds L (upds L' H) := by
  induction L with
  | nil => rfl
  | cons p L ih => simp only [List.cons_append, upds, ih]
def RL {α : Type} (e : En α) (E : TypeId) (v : Value) (xs : List α) (Lr : List (Nat × Obj)) : Prop :=
  (v = .slice none 0 0 ∧ xs = [] ∧ Lr = []) ∨ ∃ g cap rest, v = slv g 0 xs.length cap ∧ Lr = [(g, rowA e E xs rest)] ∧ xs.length ≤ cap ∧ cap ≤ maxLen ∧ xs.length * e.n + rest.length = cap * e.n
theorem RL.ro {α : Type} {e : En α} {E : TypeId} {v : Value} {xs : List α} {Lr L0 : List (Nat × Obj)} {H : PH} (h : RL e E v xs Lr) (hnd : ND (Lr ++ L0) H) : Ro e E (upds L0 H) (upds (Lr ++ L0) H) v xs := by
  rcases h with ⟨rfl, rfl, rfl⟩ | ⟨g, cap, rest, rfl, rfl, h1, h2, h3⟩
  · exact Ro.nil _ _ _
  · exact Ro.mk hnd.top h1 h2 h3
theorem Ro.rl {α : Type} {e : En α} {E : TypeId} {v : Value} {xs : List α} {L0 : List (Nat × Obj)} {H H' : PH} (h : Ro e E (upds L0 H) H' v xs) (hnd : ND L0 H) : ∃ Lr, RL e E v xs Lr ∧ ND (Lr ++ L0) H ∧ H' = upds (Lr ++ L0) H := by
  rcases h.open with ⟨rfl, rfl, rfl⟩ | ⟨g, cap, rest, rfl, rfl, h3, h4, h5, h6⟩
  · exact ⟨[], .inl ⟨rfl, rfl, rfl⟩, hnd, rfl⟩
  · exact ⟨_, .inr ⟨g, cap, rest, rfl, rfl, h4, h5, h6⟩, hnd.cons _ h3, rfl⟩
theorem RL.sl {α : Type} {e : En α} {E : TypeId} {v : Value} {xs : List α} {Lr L : List (Nat × Obj)} {H : PH} {I : Imm} (h : RL e E v xs Lr) (hnd : ND L H) (hs : ∀ p ∈ Lr, p ∈ L) : Sl e.el (Bk I (upds L H)) v xs := by
  rcases h with ⟨rfl, rfl, rfl⟩ | ⟨g, cap, rest, rfl, rfl, h1, h2, h3⟩
  · exact Sl.nil _ _
  · exact sl_row (o := 0) e (.inl (hnd.mem (hs _ (.head _)))) h1
theorem RL.lit {α : Type} (e : En α) (E : TypeId) {b n : Nat} {vs : List Value} (xs : List α) (hv : vs = encs e xs) (hn : xs.length = n) (hm : n ≤ maxLen) : RL e E (slv b 0 n n) xs [(b, .cells vs.toArray E (0, 0))] := by
  subst hv hn
  exact .inr ⟨b, xs.length, [], rfl, by simp [rowA], Nat.le_refl _, hm, by simp⟩
/-- append(out, x) where the row is one part of the own blocks. -/
theorem ap_RL {α : Type} {e : En α} {T E bytes ty : Nat} {i : TypeInfo} {z : Value} (hT : RowTy P T E e.n bytes i z) {v : Value} {xs : List α} {L Lr L0 : List (Nat × Obj)} {H : PH} (L1 : List (Nat × Obj) → List (Nat × Obj)) {b c : Nat} {news : Array Value} {I : Imm} {K : Value → Imm → PH → Prop}
    (hnd : ND ((b, .cells news E (0, 0)) :: L) H) (hr : RL e E v xs Lr) (hp : L.Perm (Lr ++ L0)) (hq : ∀ Lr' : List (Nat × Obj), (Lr' ++ L0).Perm (L1 Lr')) (ys : List α) (m : Nat) (hn : news.toList = encs e ys) (hm : ys.length = m) (h63 : xs.length + m ≤ 1099511627776) (hby : bytes ≤ 128)
    (h : ∀ v' Lr', RL e E v' (xs ++ ys) Lr' → ND (L1 Lr') H → K v' I (upds (L1 Lr') H)) : wAct P (Builtin.append_ #[T, T] ty #[v, slv b 0 m c]) I (upds ((b, .cells news E (0, 0)) :: L) H) K := by
  have hnd1 : ND L H := ⟨(List.nodup_cons.1 hnd.nd).2, fun p hm => hnd.out p (.tail _ hm)⟩
  have hnd2 := hnd1.perm hp
  have e1 : upds ((b, .cells news E (0, 0)) :: L) H = upd (upds (Lr ++ L0) H) b (.cells news E (0, 0)) := by
    show upd (upds L H) b _ = _
    rw [upds_perm hnd1 hp]
  have hb : upds (Lr ++ L0) H b = none := by rw [← upds_perm hnd1 hp]; exact hnd.top
  rw [e1]
  refine ap_en hT (hr.ro hnd2) ys m hb hn hm h63 hby fun v' H' hr' => ?_
  have hnd0 : ND L0 H := ⟨by have := hnd2.nd; rw [List.map_append, List.nodup_append] at this; exact this.2.1, fun p hm => hnd2.out p (List.mem_append_right _ hm)⟩
  obtain ⟨Lr', h1, h2, rfl⟩ := hr'.rl hnd0
  rw [upds_perm h2 (hq Lr')]
  exact h v' Lr' h1 (h2.perm (hq Lr'))

theorem RL.val {α : Type} {e : En α} {E : TypeId} {v : Value} {xs : List α} {Lr : List (Nat × Obj)} (h : RL e E v xs Lr) : ∃ a n c, v = .slice a n c := by
  rcases h with ⟨rfl, _, _⟩ | ⟨g, cap, rest, rfl, _⟩
  · exact ⟨_, _, _, rfl⟩
  · exact ⟨_, _, _, rfl⟩
/-- A store into the k-th own block, with the list as it is then. -/
theorem stL {T n : Nat} {agg : Bool} (ht : TyI P T agg n) {I : Imm} {L : List (Nat × Obj)} {H : PH} (hnd : ND L H) (k : Nat) (L' : List (Nat × Obj)) {K : Unit → Imm → PH → Prop} {b o : Nat} {arr : Array Value} {E : TypeId} {v : Value}
    (hk : L[k]? = some (b, .cells arr E (0, 0))) (hn : v.cells.size = n) (hfit : o + n ≤ arr.size) (h1 : v.cells.toList.all (·.oneCell') = true)
    (hL : L.set k (b, .cells (setN arr.toList o v.cells.toList).toArray E (0, 0)) = L') (h : ND L' H → K () I (upds L' H)) : wAct P (Instr.storeAt T (ptr b o) v) I (upds L H) K := by
  subst hL
  exact sto ht hnd k hk hn hfit h1 h
/-! ### append of a whole list -/
theorem encs_inv {α : Type} (e : En α) : ∀ (xs : List α) (j : Nat) (u : Value), (encs e xs)[j]? = some u → ∃ i x r, xs[i]? = some x ∧ j = i * e.n + r ∧ (e.enc x)[r]? = some u
  | [], j, u, h => by simp [encs] at h
  | x :: xs, j, u, h => by
    simp only [encs, List.flatMap_cons] at h
    by_cases hj : j < (e.enc x).length
    · rw [List.getElem?_append_left hj] at h
      exact ⟨0, x, j, rfl, by simp, h⟩
    · rw [List.getElem?_append_right (by omega)] at h
      obtain ⟨i, y, r, h1, h2, h3⟩ := encs_inv e xs (j - (e.enc x).length) u h
      refine ⟨i + 1, y, r, by simpa using h1, ?_, h3⟩
      rw [e.len] at h2 hj
      rw [Nat.add_mul]; omega
theorem src_sl {α : Type} {e : En α} {I : Imm} {H : PH} {w : World} (hw : Sat I H w) {b o c : Nat} {xs : List α} (hs : ∀ i x, xs[i]? = some x → ElAt e.el (Bk I H) b (o + i * e.n) x) : ∀ j u, (encs e xs)[j]? = some u → w.cell? ((⟨b, o, none⟩ : Addr).add j) = some u := by
  intro j u hu
  obtain ⟨i, x, r, h1, rfl, h3⟩ := encs_inv e xs j u hu
  obtain ⟨cs, ⟨arr, E, fr, h4, h5⟩, h6⟩ := hs i x h1
  have h7 := h5 r u (by rw [h6]; exact h3)
  rw [add_off, ← Nat.add_assoc]
  exact cell_of (hw.has h4) h7
theorem ap_sl {α : Type} {e : En α} {T E bytes ty : Nat} {i : TypeInfo} {z : Value} (hT : RowTy P T E e.n bytes i z) {H0 H : PH} {v lv : Value} {xs ys : List α} (hr : Ro e E H0 H v xs) {I : Imm} {K : Value → Imm → PH → Prop}
    (hs : Sl e.el (Bk I H) lv ys) (h63 : xs.length + ys.length ≤ 1099511627776) (hby : bytes ≤ 128)
    (h : ∀ v' H', Ro e E H0 H' v' (xs ++ ys) → K v' I H') : wAct P (Builtin.append_ #[T, T] ty #[v, lv]) I H K := by
  intro w hw
  obtain ⟨a, c, rfl, hc, hel⟩ := hs
  by_cases hm : ys = []
  · subst hm
    have hK := h v H (by rw [List.append_nil]; exact hr)
    refine ⟨v, w, I, H, ?_, .refl I, hw, hK⟩
    rcases hr.open with ⟨rfl, rfl, rfl⟩ | ⟨g, cap, rest, rfl, rfl, h3, h4, h5, h6⟩
    · cases a <;> simp [Builtin.append_, run_underlying hT.und, sizeOf, typeInfo, hT.info, Builtin.lenOf, Builtin.firstCells, loadCells, loadCellsFrom]
    · cases a <;> simp [Builtin.append_, run_underlying hT.und, sizeOf, typeInfo, hT.info, Builtin.lenOf, Builtin.firstCells, loadCells, loadCellsFrom, h4, storeCells]
  · obtain ⟨b, o, rfl, hel2⟩ := hel hm
    obtain ⟨v', w', H', h2, h3, h4⟩ := ap_core (P := P) (ty := ty) hT hr (a := ⟨b, o, none⟩) (m := ys.length) (c := c) (news := encs e ys) (I := I) (encs_len e ys) (encs_one e ys) (by simp only [maxLen]; omega)
      (by have := Nat.mul_le_mul h63 hby; omega) hw (src_sl (c := c) hw hel2)
    exact ⟨v', w', I, H', h2, .refl I, h3, h v' H' (by unfold Ro; rw [encs_append, List.length_append]; exact h4)⟩
theorem run_lit0 {T E s : Nat} {agg : Bool} (hu : P.underlying T = some (.slice E)) (ht : TyI P E agg s) (w : World) : (Instr.buildSlice T 0 #[]).run P w = .ok (slv w.heap.size 0 0 0) (w.alloc (.cells #[] E)) := by
  unfold Instr.buildSlice
  rw [run_bind, und_run hu w]
  simp only [Result.andThen_ok]
  rw [run_bind, ht.size w]
  have e0 : ∀ f : Nat → Value, (Array.range 0).map f = #[] := fun f => by apply Array.ext'; simp
  simp [Instr.fill, newRow, e0]
theorem mk_lit0 {T E s : Nat} {agg : Bool} (hu : P.underlying T = some (.slice E)) (ht : TyI P E agg s) {I : Imm} {L : List (Nat × Obj)} {H : PH} {K : Value → PH → Prop} (hnd : ND L H)
    (h : ∀ b, I.blk b = none → ND ((b, .cells #[] E) :: L) H → K (slv b 0 0 0) (upds ((b, .cells #[] E) :: L) H)) : wMake P (Instr.buildSlice T 0 #[]) I (upds L H) K :=
  mk_gen (f := fun b => slv b 0 0 0) hnd (run_lit0 hu ht) h
theorem Ro.lit0 {α : Type} (e : En α) (E : TypeId) {H0 : PH} {b : Nat} (h : H0 b = none) : Ro e E H0 (upd H0 b (.cells #[] E (0, 0))) (slv b 0 0 0) ([] : List α) :=
  Ro.mk (xs := []) (rest := []) (cap := 0) h (by simp) (by simp) (by simp)
end Go.Proofs.Ytibgbapeblicjaa
