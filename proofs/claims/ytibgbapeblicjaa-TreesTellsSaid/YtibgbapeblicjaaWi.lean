/- Laws for guards, rows of the call's own that grow, slicing. -/
import Derived.Test.YtibgbapeblicjaaWh
set_option linter.unusedVariables false
namespace Go.Proofs.Ytibgbapeblicjaa
open Go
variable {P : Program}

theorem g_on {b : Bool} {F : KV → Prop} {K : KV} {I : Imm} {H : PH} (h : F K) : wGuard (.bool b) b F K I H := .inl ⟨b, rfl, fun _ => h, (fun e => by cases b <;> cases e)⟩
theorem g_off {b : Bool} {F : KV → Prop} {K : KV} {I : Imm} {H : PH} (h : K undef I H) : wGuard (.bool b) (!b) F K I H := .inl ⟨b, rfl, (fun e => by cases b <;> cases e), fun _ => h⟩
theorem gD_on {b : Bool} {F : KD → Prop} {K : KD} {I : Imm} {Hs Ha : PH} (h : F K) : wGuardD (.bool b) b F K I Hs Ha := .inl ⟨b, rfl, fun _ => h, (fun e => by cases b <;> cases e)⟩
theorem gD_off {b : Bool} {F : KD → Prop} {K : KD} {I : Imm} {Hs Ha : PH} (h : K undef I Hs Ha) : wGuardD (.bool b) (!b) F K I Hs Ha := .inl ⟨b, rfl, (fun e => by cases b <;> cases e), fun _ => h⟩
theorem p_not {b : Bool} {K : Value → Prop} (h : K (.bool !b)) : wPure P (Op.unary .not (.bool b)) K := p_gen (run_not b) h
theorem p_pick {b : Bool} {x y : Value} {K : Value → Prop} (h : K (cond b x y)) : wPure P (semPick (.bool b) x y) K := p_gen (run_pick b x y) h

/-! ### Slicing -/
theorem Addr_map_add (a : Option Addr) (b o n : Nat) (h : a = some ⟨b, o, none⟩) : a.map (·.add n) = some ⟨b, o + n, none⟩ := by subst h; simp [add_off]
theorem run_slice {T S : TypeId} {s : Nat} {agg : Bool} (hu : P.underlying T = some (.slice S)) (ht : TyI P S agg s) {a : Option Addr} {n c : Nat} {lo hi mx : Option Value} {l h m : Nat}
    (hm : (match mx with | some v => v = vi m ∧ m ≤ c | none => m = c)) (hh : (match hi with | some v => v = vi h ∧ h ≤ m | none => h = n ∧ mx = none)) (hl : (match lo with | some v => v = vi l | none => l = 0)) (hlh : l ≤ h) (w : World) :
    (Instr.sliceAt T (.slice a n c) lo hi mx).run P w = .ok (.slice (if m = l then a else a.map (·.add (l * s))) (h - l) (m - l)) w := by
  have sb : ∀ (x y : Nat) (code : BoundsCode), x ≤ y → (Instr.sliceBound (vi x) y code).run P w = .ok x w := by
    intro x y code hxy
    unfold Instr.sliceBound asIntOf
    rw [run_bind, run_pure]
    simp only [Result.andThen_ok]
    rw [if_pos ⟨by omega, by omega⟩]
    simp
  have hb : (Instr.sliceBounds true n c lo hi mx).run P w = .ok (l, h, m) w := by
    unfold Instr.sliceBounds
    cases mx with
    | none =>
      subst hm
      rw [run_bind]; simp only [run_pure, Result.andThen_ok]
      cases hi with
      | none =>
        obtain ⟨rfl, _⟩ := hh
        rw [run_bind]; simp only [run_pure, Result.andThen_ok]
        cases lo with
        | none => subst hl; rfl
        | some v => subst hl; rw [run_bind, sb _ _ _ hlh]; rfl
      | some v =>
        obtain ⟨rfl, hh⟩ := hh
        rw [run_bind]
        rw [sb _ _ _ hh]; simp only [Result.andThen_ok]
        cases lo with
        | none => subst hl; rfl
        | some v => subst hl; rw [run_bind, sb _ _ _ hlh]; rfl
    | some v =>
      obtain ⟨rfl, hm⟩ := hm
      rw [run_bind]
      rw [sb _ _ _ hm]; simp only [Result.andThen_ok]
      cases hi with
      | none => cases hh.2
      | some v =>
        obtain ⟨rfl, hh⟩ := hh
        rw [run_bind]
        rw [sb _ _ _ hh]; simp only [Result.andThen_ok]
        cases lo with
        | none => subst hl; rfl
        | some v => subst hl; rw [run_bind, sb _ _ _ hlh]; rfl
  unfold Instr.sliceAt
  rw [run_bind, und_run hu w]
  simp only [Result.andThen_ok]
  unfold Instr.slice
  rw [run_bind, und_run hu w]
  simp only [Result.andThen_ok]
  rw [run_bind, hb]
  simp only [Result.andThen_ok]
  rw [run_bind, ht.size w]
  rfl

/-- x[:h] of what reads as a list -/
theorem p_slice_h {T S : TypeId} {s : Nat} {agg : Bool} {α : Type} {e : El α} {B : BR} {v : Value} {xs : List α} (hu : P.underlying T = some (.slice S)) (ht : TyI P S agg s) (hs : Sl e B v xs) {h : Nat} (hh : h ≤ xs.length) {K : Value → Prop}
    (hk : ∀ v', Sl e B v' (xs.take h) → K v') : wPure P (Instr.sliceAt T v none (some (vi h)) none) K := by
  obtain ⟨a, c, rfl, hc, hr⟩ := hs
  refine p_gen (run_slice (l := 0) (h := h) (m := c) hu ht rfl ⟨rfl, by omega⟩ rfl (by omega)) (hk _ ?_)
  have hl : (xs.take h).length = h := by simp; omega
  refine ⟨if c = 0 then a else a.map (·.add (0 * s)), c, by rw [hl]; rfl, by omega, fun hne => ?_⟩
  have : xs ≠ [] := fun e => by subst e; simp at hne
  obtain ⟨b, o, rfl, hel⟩ := hr this
  refine ⟨b, o, by split <;> simp [Nat.zero_mul, Addr.add], fun i x hx => hel i x ?_⟩
  rw [List.getElem?_take] at hx
  split at hx
  · exact hx
  · cases hx

/-! ### Rows that grow -/
structure RowTy (P : Program) (T E : TypeId) (s bytes : Nat) (i : TypeInfo) (z : Value) : Prop where
  und : P.underlying T = some (.slice E)
  info : P.info? E = some i
  zero : i.zero = some z
  size : i.size = s
  bytes : i.bytes = bytes
  zs : z.cells.size = s
  pos : 0 < s
theorem RowTy.mk' {T E s bytes : Nat} {z : Value} (hs : (P.info? E).isSome = true) (hu : P.underlying T = some (.slice E)) (h : (P.info? E).map (fun i => (i.size, i.bytes, i.zero)) = some (s, bytes, some z)) (hz : z.cells.size = s) (hp : 0 < s) : RowTy P T E s bytes ((P.info? E).get hs) z := by
  obtain ⟨i, hi⟩ := Option.isSome_iff_exists.1 hs
  have hg : (P.info? E).get hs = i := by simp [hi]
  rw [hi] at h
  simp only [Option.map_some, Option.some.injEq, Prod.mk.injEq] at h
  rw [hg]
  exact ⟨hu, hi, h.2.2, h.1, h.2.1, hz, hp⟩
def RowS (H0 H : PH) (E s : Nat) (v : Value) (n : Nat) (xs : List Value) : Prop :=
  xs.length = n * s ∧ ((v = .slice none 0 0 ∧ n = 0 ∧ H = H0) ∨
    ∃ g cap cur, v = slv g 0 n cap ∧ H = upd H0 g (.cells cur E (0, 0)) ∧ H0 g = none ∧ n ≤ cap ∧ cap ≤ maxLen ∧ cur.size = cap * s ∧ cur.toList.take (n * s) = xs)
theorem RowS.sub {H0 H : PH} {E s : Nat} {v : Value} {n : Nat} {xs : List Value} (h : RowS H0 H E s v n xs) : Sub H0 H := by
  rcases h.2 with ⟨_, _, rfl⟩ | ⟨g, cap, cur, _, rfl, hg, _⟩
  · exact .refl _
  · exact Sub.upd hg
theorem RowS.nil (H : PH) (E s : Nat) : RowS H H E s (.slice none 0 0) 0 [] := ⟨by simp, .inl ⟨rfl, rfl, rfl⟩⟩
theorem RowS.sat {H0 H : PH} {E s : Nat} {v : Value} {n : Nat} {xs : List Value} (h : RowS H0 H E s v n xs) {I : Imm} {w : World} (hw : Sat I H w) : Sat I H0 w := hw.less h.sub

theorem ap_core {T E s bytes ty : Nat} {i : TypeInfo} {z : Value} (hT : RowTy P T E s bytes i z) {H0 H : PH} {v : Value} {n : Nat} {xs : List Value} (hr : RowS H0 H E s v n xs) {a : Addr} {m c : Nat} {news : List Value} {I : Imm}
    (hl : news.length = m * s) (h1 : ∀ u ∈ news, u.oneCell' = true) (h63 : n + m ≤ maxLen) (hby : (n + m) * bytes ≤ 140737488355328) {w : World} (hw : Sat I H w)
    (hsrc : ∀ j u, news[j]? = some u → w.cell? (a.add j) = some u) :
    ∃ v' w' H', (Builtin.append_ #[T, T] ty #[v, .slice (some a) m c]).run P w = .ok v' w' ∧ Sat I H' w' ∧ RowS H0 H' E s v' (n + m) (xs ++ news) := by
  have hsz := hT.size; have hz := hT.zero
  have hsmall : n + m ≤ 9223372036854775807 := by simp only [maxLen] at h63; omega
  have hlen : (xs ++ news).length = (n + m) * s := by rw [List.length_append, hr.1, hl, Nat.add_mul]
  have grown : ∀ (old : Nat), old < n + m → ∃ H', Sat I H' (w.drew.alloc (.cells (xs.toArray ++ news.toArray ++ Builtin.zeroCells z.cells (grownCap w (n + m) old E - (n + m))) E)) ∧
      RowS H0 H' E s (slv w.heap.size 0 (n + m) (grownCap w (n + m) old E)) (n + m) (xs ++ news) := by
    intro old ho
    have hge := grownCap_ge w (n + m) old E
    have hcm : grownCap w (n + m) old E ≤ maxLen := grownCap_le_maxLen w (n + m) old E h63
    have hw0 : Sat I H0 w.drew := (hr.sat hw).drew
    refine ⟨_, hw0.alloc _, hlen, .inr ⟨_, _, _, rfl, rfl, hw0.fresh.2, hge, hcm, ?_, ?_⟩⟩
    · simp only [Array.size_append, List.size_toArray, size_zeroCells, hT.zs, hr.1, hl, ← Nat.add_mul]
      congr 1
      omega
    · simp only [Array.toList_append, List.append_assoc]
      rw [← List.append_assoc, ← hlen]
      exact List.take_left
  rcases hr.2 with ⟨rfl, rfl, rfl⟩ | ⟨g, cap, cur, rfl, rfl, hg0, hnc, hcm, hcs, htake⟩
  · have hx : xs = [] := List.eq_nil_of_length_eq_zero (by simpa using hr.1)
    subst hx
    by_cases hm : m = 0
    · subst hm
      have hn : news = [] := List.eq_nil_of_length_eq_zero (by simpa using hl)
      subst hn
      refine ⟨.slice none 0 0, w, H, ?_, hw, RowS.nil H E s⟩
      simp [Builtin.append_, run_underlying hT.und, sizeOf, typeInfo, hT.info, Builtin.lenOf, Builtin.firstCells, loadCells, loadCellsFrom]
    · have hrun := run_append_nil (P := P) w T ty E i z hT.und hT.info hz a m c news (by rw [hsz]; exact hl) hsrc (by omega) (by omega) (by have hb := hby; simp only [Nat.zero_add] at hb; rw [hT.bytes]; omega)
      obtain ⟨H', hs', hrow⟩ := grown 0 (by omega)
      simp only [Nat.zero_add, List.nil_append, Array.empty_append] at hs' hrow ⊢
      exact ⟨_, _, H', hrun, hs', hrow⟩
  · have hgw : w.heap[g]? = some (.cells cur E (0, 0)) := hw.own g _ (upd_same _ _ _)
    by_cases hroom : n + m ≤ cap
    · have hfit : n * i.size + news.length ≤ cur.size := by rw [hsz, hl, hcs, ← Nat.add_mul]; exact Nat.mul_le_mul_right _ hroom
      have hrun := run_append_room (P := P) w T ty E i hT.und hT.info g n cap cur hgw a m c news (by rw [hsz]; exact hl) hsrc h1 hroom hfit
      rw [hsz] at hrun
      have e : upd (upd H0 g (.cells cur E (0, 0))) g (.cells (cur.toList.take (n * s) ++ news ++ cur.toList.drop (n * s + news.length)).toArray E (0, 0)) = upd H0 g (.cells (cur.toList.take (n * s) ++ news ++ cur.toList.drop (n * s + news.length)).toArray E (0, 0)) := by
        funext x; by_cases hx : x = g
        · subst hx; rw [upd_same, upd_same]
        · rw [upd_ne _ _ hx, upd_ne _ _ hx, upd_ne _ _ hx]
      refine ⟨_, _, _, hrun, by rw [← e]; exact hw.setRow (upd_same _ _ _) _, hlen, .inr ⟨g, cap, _, rfl, rfl, hg0, hroom, hcm, ?_, ?_⟩⟩
      · have hfit' := hfit; rw [hsz] at hfit'
        simp only [List.size_toArray, List.length_append, List.length_take, List.length_drop, Array.length_toList]
        omega
      · rw [htake, ← hlen]
        exact List.take_left
    · have holds : ∀ j u, xs[j]? = some u → w.cell? ((⟨g, 0, none⟩ : Addr).add j) = some u := by
        intro j u hu
        rw [add_off, Nat.zero_add]
        refine cell_of hgw ?_
        rw [← htake, List.getElem?_take] at hu
        split at hu
        · simpa using hu
        · cases hu
      have hrun := run_append_grow (P := P) w T ty E i z hT.und hT.info hz ⟨g, 0, none⟩ n cap xs (by rw [hsz]; exact hr.1) holds a m c news (by rw [hsz]; exact hl) hsrc (by omega) (by omega) (by rw [hT.bytes]; exact growslice_fits (by omega) hby)
      obtain ⟨H', hs', hrow⟩ := grown cap (by omega)
      exact ⟨_, _, H', hrun, hs', hrow⟩

/-- append(out, x): x lies in a block that was made for it, which is let go. -/
theorem ap_one {T E s bytes ty : Nat} {i : TypeInfo} {z : Value} (hT : RowTy P T E s bytes i z) {H0 H : PH} {v : Value} {n : Nat} {xs : List Value} (hr : RowS H0 H E s v n xs) {b m c : Nat} {news : Array Value} {fr : Nat × Nat} {I : Imm} {K : Value → Imm → PH → Prop}
    (hb : H b = none) (hl : news.size = m * s) (h1 : news.toList.all (·.oneCell') = true) (h63 : n + m ≤ 1099511627776) (hby : bytes ≤ 128)
    (h : ∀ v' H', RowS H0 H' E s v' (n + m) (xs ++ news.toList) → K v' I H') : wAct P (Builtin.append_ #[T, T] ty #[v, slv b 0 m c]) I (upd H b (.cells news E fr)) K := by
  intro w hw
  have hw' : Sat I H w := hw.less (Sub.upd hb)
  obtain ⟨v', w', H', h2, h3, h4⟩ := ap_core (P := P) (ty := ty) hT hr (a := ⟨b, 0, none⟩) (m := m) (c := c) (news := news.toList) (I := I) (by simpa using hl) (by simpa only [List.all_eq_true] using h1) (by simp only [maxLen]; omega)
    (by have := Nat.mul_le_mul h63 hby; omega) hw' (fun j u hj => by
      rw [add_off, Nat.zero_add]; exact cell_of (hw.own b _ (upd_same _ _ _)) (by simpa using hj))
  exact ⟨v', w', I, H', h2, .refl I, h3, h v' H' h4⟩
/-- append(out, l...): l reads elsewhere. -/
theorem ap_list {T E s bytes ty : Nat} {i : TypeInfo} {z : Value} (hT : RowTy P T E s bytes i z) {H0 H : PH} {v : Value} {n : Nat} {xs : List Value} (hr : RowS H0 H E s v n xs) {a : Option Addr} {m c : Nat} {news : List Value} {I : Imm} {K : Value → Imm → PH → Prop}
    (hl : news.length = m * s) (h1 : ∀ u ∈ news, u.oneCell' = true) (h63 : n + m ≤ 1099511627776) (hby : bytes ≤ 128) (hsrc : m ≠ 0 → ∃ b o, a = some ⟨b, o, none⟩ ∧ At (Bk I H) b o news) (hn : v ≠ .slice none 0 0 ∨ m ≠ 0)
    (h : ∀ v' H', RowS H0 H' E s v' (n + m) (xs ++ news) → K v' I H') : wAct P (Builtin.append_ #[T, T] ty #[v, .slice a m c]) I H K := by
  intro w hw
  by_cases hm : m = 0
  · subst hm
    have hnn : news = [] := List.eq_nil_of_length_eq_zero (by simpa using hl)
    subst hnn
    rcases hr.2 with ⟨rfl, _, _⟩ | ⟨g, cap, cur, rfl, rfl, hg0, hnc, hcm, hcs, htake⟩
    · rcases hn with hn | hn <;> exact absurd rfl hn
    · have hgw : w.heap[g]? = some (.cells cur E (0, 0)) := hw.own g _ (upd_same _ _ _)
      refine ⟨slv g 0 (n + 0) cap, w, I, _, ?_, .refl I, hw, h _ _ ⟨by simpa using hr.1, .inr ⟨g, cap, cur, rfl, rfl, hg0, hnc, hcm, hcs, by simpa using htake⟩⟩⟩
      have hnc' : n + 0 ≤ cap := hnc
      cases a with
      | none => simp [Builtin.append_, run_underlying hT.und, sizeOf, typeInfo, hT.info, Builtin.lenOf, Builtin.firstCells, loadCells, hnc, storeCells]
      | some a => simp [Builtin.append_, run_underlying hT.und, sizeOf, typeInfo, hT.info, Builtin.lenOf, Builtin.firstCells, loadCells, loadCellsFrom, hnc, storeCells]
  · obtain ⟨b, o, rfl, arr, E', fr, hb, hv⟩ := hsrc hm
    obtain ⟨v', w', H', h2, h3, h4⟩ := ap_core (P := P) (ty := ty) hT hr (a := ⟨b, o, none⟩) (m := m) (c := c) (news := news) (I := I) hl h1 (by simp only [maxLen]; omega)
      (by have := Nat.mul_le_mul h63 hby; omega) hw (fun j u hj => by rw [add_off]; exact cell_of (hw.has hb) (hv j u hj))
    exact ⟨v', w', I, H', h2, .refl I, h3, h v' H' h4⟩
end Go.Proofs.Ytibgbapeblicjaa
