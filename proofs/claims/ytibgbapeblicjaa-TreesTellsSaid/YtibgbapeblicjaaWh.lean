/- Laws for slice literals, slicing, append; what it means that a slice reads as a list of typed data. -/
import Derived.Test.YtibgbapeblicjaaWg
import Derived.Great.BuildSlice
import Derived.IntWalk
set_option linter.unusedVariables false
namespace Go.Proofs.Ytibgbapeblicjaa
open Go
variable {P : Program}

/-! ### Slice literals -/
def enumFrom : Nat → List Value → List (Nat × Value)
  | _, [] => []
  | k, v :: l => (k, v) :: enumFrom (k + 1) l
def flatC (vs : List Value) : List Value := (vs.map fun v => v.cells.toList).flatten
theorem splice_set (vs : List Value) (o : Nat) : ∀ (k : Nat) (cs : Array Value), o + k + vs.length ≤ cs.size →
    ((vs.zipIdx k).foldl (fun cs (c, j) => cs.setIfInBounds (o + j) c) cs).toList = cs.toList.take (o + k) ++ vs ++ cs.toList.drop (o + k + vs.length) := by
  induction vs with
  | nil => intro k cs h; simp
  | cons v vs ih =>
    intro k cs h
    simp only [List.length_cons] at h
    simp only [List.zipIdx_cons, List.foldl_cons]
    rw [ih (k + 1) (cs.setIfInBounds (o + k) v) (by simp; omega)]
    have := Go.list_seg_step cs.toList (o + k) v vs (by simp; omega)
    simp only [Array.toList_setIfInBounds, List.length_cons] at this ⊢
    rw [show o + (k + 1) = o + k + 1 from by omega]
    exact this
theorem fill_enum {s : Nat} : ∀ (vs : List Value) (k : Nat) (cs : Array Value), (∀ v ∈ vs, v.cells.size = s) → (k + vs.length) * s ≤ cs.size →
    ∃ r, Instr.fill (fun i => some (i * s, s)) cs (enumFrom k vs) = some r ∧ r.toList = cs.toList.take (k * s) ++ flatC vs ++ cs.toList.drop (k * s + vs.length * s) := by
  intro vs
  induction vs with
  | nil => intro k cs _ _; exact ⟨cs, rfl, by simp [flatC]⟩
  | cons v vs ih =>
    intro k cs hs hl
    have hv : v.cells.size = s := hs v (.head _)
    simp only [List.length_cons] at hl
    have e1 : (k + (vs.length + 1)) * s = k * s + s + vs.length * s := by rw [Nat.add_mul, Nat.add_mul]; omega
    rw [e1] at hl
    simp only [enumFrom, Instr.fill, hv]
    rw [if_neg (by simp; omega)]
    have h1 := splice_set v.cells.toList (k * s) 0 cs (by simp [hv]; omega)
    simp only [Nat.add_zero, Array.length_toList, hv] at h1
    have e2 : (v.cells.zipIdx.foldl (fun cs (x : Value × Nat) => cs.setIfInBounds (k * s + x.2) x.1) cs).toList = cs.toList.take (k * s) ++ v.cells.toList ++ cs.toList.drop (k * s + s) := by
      rw [← h1, ← Array.foldl_toList]; simp
    show ∃ r, Instr.fill (fun i => some (i * s, s)) (v.cells.zipIdx.foldl (fun cs (x : Value × Nat) => cs.setIfInBounds (k * s + x.2) x.1) cs) (enumFrom (k + 1) vs) = some r ∧ _
    generalize v.cells.zipIdx.foldl (fun cs (x : Value × Nat) => cs.setIfInBounds (k * s + x.2) x.1) cs = X at e2
    have e3 : X.size = cs.size := by rw [← Array.length_toList, e2]; simp [hv]; omega
    obtain ⟨r, hr, hr2⟩ := ih (k + 1) X (fun x hx => hs x (.tail _ hx)) (by rw [e3, Nat.add_mul, Nat.add_mul]; omega)
    refine ⟨r, hr, ?_⟩
    rw [hr2, e2]
    have hlen : (cs.toList.take (k * s) ++ v.cells.toList).length = (k + 1) * s := by simp [hv, Nat.add_mul]; omega
    rw [← hlen, List.take_left, ]
    have hd : (k * s + (vs.length + 1) * s) = k * s + s + vs.length * s := by rw [Nat.add_mul]; omega
    have hd2 : (cs.toList.take (k * s) ++ v.cells.toList).length + vs.length * s = (cs.toList.take (k * s) ++ v.cells.toList).length + vs.length * s := rfl
    rw [List.drop_append, List.drop_eq_nil_of_le (by omega), List.nil_append, List.drop_drop]
    rw [show k * s + s + ((cs.toList.take (k * s) ++ v.cells.toList).length + vs.length * s - (cs.toList.take (k * s) ++ v.cells.toList).length) = k * s + (vs.length + 1) * s from by rw [hd]; omega]
    simp [flatC, List.append_assoc]
theorem run_sliceLit {T E n s : Nat} {agg : Bool} {z : Value} {vs : List Value} (hu : P.underlying T = some (.slice E)) (ht : TyI P E agg s) (hz : ZeroIs P E z) (hzs : z.cells.size = s) (hs : ∀ v ∈ vs, v.cells.size = s) (hl : vs.length = n)
    (hpos : 0 < n * s) (hbig : n * s ≤ 16777216) (w : World) : (Instr.buildSlice T n (enumFrom 0 vs).toArray).run P w = .ok (slv w.heap.size 0 n n) (w.alloc (.cells (flatC vs).toArray E)) := by
  obtain ⟨r, hr, hr2⟩ := fill_enum (s := s) vs 0 ((Array.range (n * s)).map (z.cells[· % z.cells.size]!)) hs (by simp [hl])
  have hr3 : r = (flatC vs).toArray := by
    apply Array.ext'; rw [hr2]; simp [hl]
  unfold Instr.buildSlice
  rw [run_bind, und_run hu w]
  simp only [Result.andThen_ok]
  rw [run_bind, ht.size w]
  simp only [Result.andThen_ok]
  rw [if_neg (by omega), if_neg (by omega), run_bind, hz w]
  simp only [Result.andThen_ok]
  rw [run_bind, run_pure]
  simp only [Result.andThen_ok, hr, hr3]
  rfl
theorem mk_lit {T E n s : Nat} {agg : Bool} {z : Value} (vs : List Value) (hu : P.underlying T = some (.slice E)) (ht : TyI P E agg s) (hz : ZeroIs P E z) (hzs : z.cells.size = s) {ps : Array (Nat × Value)} (hps : ps = (enumFrom 0 vs).toArray) (hs : vs.all (fun v => v.cells.size == s) = true) (hl : vs.length = n)
    (hpos : 0 < n * s) (hbig : n * s ≤ 16777216) {I : Imm} {L : List (Nat × Obj)} {H : PH} {K : Value → PH → Prop} (hnd : ND L H)
    (h : ∀ b, I.blk b = none → ND ((b, .cells (flatC vs).toArray E) :: L) H → K (slv b 0 n n) (upds ((b, .cells (flatC vs).toArray E) :: L) H)) : wMake P (Instr.buildSlice T n ps) I (upds L H) K := by
  subst hps
  exact mk_gen (f := fun b => slv b 0 n n) hnd (run_sliceLit hu ht hz hzs (by simpa using hs) hl hpos hbig) h
theorem mkD_lit {T E n s : Nat} {agg : Bool} {z : Value} (vs : List Value) (hu : P.underlying T = some (.slice E)) (ht : TyI P E agg s) (hz : ZeroIs P E z) (hzs : z.cells.size = s) {ps : Array (Nat × Value)} (hps : ps = (enumFrom 0 vs).toArray) (hs : vs.all (fun v => v.cells.size == s) = true) (hl : vs.length = n)
    (hpos : 0 < n * s) (hbig : n * s ≤ 16777216) {I : Imm} {L : List (Nat × Obj)} {H Ha : PH} {K : Value → PH → Prop} (hnd : ND L H)
    (h : ∀ b, I.blk b = none → ND ((b, .cells (flatC vs).toArray E) :: L) H → K (slv b 0 n n) (upds ((b, .cells (flatC vs).toArray E) :: L) H)) : wMakeD P (Instr.buildSlice T n ps) I (upds L H) Ha K := by
  subst hps
  exact mkD_gen (f := fun b => slv b 0 n n) hnd (run_sliceLit hu ht hz hzs (by simpa using hs) hl hpos hbig) h

/-! ### What a slice reads as -/
abbrev BR := Nat → Obj → Prop
def SubB (B B' : BR) : Prop := ∀ b o, B b o → B' b o
def At (B : BR) (b o : Nat) (cs : List Value) : Prop := ∃ arr E fr, B b (.cells arr E fr) ∧ ∀ j v, cs[j]? = some v → arr[o + j]? = some v
structure El (α : Type) where
  n : Nat
  rel : BR → List Value → α → Prop
  len : ∀ B cs x, rel B cs x → cs.length = n
  mono : ∀ B B' cs x, SubB B B' → rel B cs x → rel B' cs x
def ElAt {α : Type} (e : El α) (B : BR) (b o : Nat) (x : α) : Prop := ∃ cs, At B b o cs ∧ e.rel B cs x
def Sl {α : Type} (e : El α) (B : BR) (v : Value) (xs : List α) : Prop :=
  ∃ a c, v = .slice a xs.length c ∧ xs.length ≤ c ∧ (xs ≠ [] → ∃ b o, a = some ⟨b, o, none⟩ ∧ ∀ i x, xs[i]? = some x → ElAt e B b (o + i * e.n) x)
abbrev Bk (I : Imm) (H : PH) : BR := Has I H
theorem At.mono {B B' : BR} {b o : Nat} {cs : List Value} (h : At B b o cs) (hs : SubB B B') : At B' b o cs := by
  obtain ⟨arr, E, fr, h1, h2⟩ := h; exact ⟨arr, E, fr, hs _ _ h1, h2⟩
theorem ElAt.mono {α : Type} {e : El α} {B B' : BR} {b o : Nat} {x : α} (h : ElAt e B b o x) (hs : SubB B B') : ElAt e B' b o x := by
  obtain ⟨cs, h1, h2⟩ := h; exact ⟨cs, h1.mono hs, e.mono _ _ _ _ hs h2⟩
theorem Sl.mono {α : Type} {e : El α} {B B' : BR} {v : Value} {xs : List α} (h : Sl e B v xs) (hs : SubB B B') : Sl e B' v xs := by
  obtain ⟨a, c, h1, h2, h3⟩ := h
  exact ⟨a, c, h1, h2, fun hn => by obtain ⟨b, o, h4, h5⟩ := h3 hn; exact ⟨b, o, h4, fun i x hx => (h5 i x hx).mono hs⟩⟩
theorem Bk_sub {I : Imm} {H H' : PH} (h : Sub H H') : SubB (Bk I H) (Bk I H') := fun b o e => e.imp (h b o) id
theorem Bk_le {I I' : Imm} {H : PH} (h : I.le I') : SubB (Bk I H) (Bk I' H) := fun b o e => e.imp id (h.blk b o)
theorem Bk_lt {I I' : Imm} {H H' : PH} (h : I.le I') (h' : Sub H H') : SubB (Bk I H) (Bk I' H') := fun b o e => e.imp (h' b o) (h.blk b o)
theorem Sl.nil {α : Type} (e : El α) (B : BR) : Sl e B (.slice none 0 0) [] := ⟨none, 0, rfl, Nat.le_refl _, fun h => absurd rfl h⟩
theorem Sl.len {α : Type} {e : El α} {B : BR} {v : Value} {xs : List α} (h : Sl e B v xs) : ∃ a c, v = .slice a xs.length c := by obtain ⟨a, c, h1, _⟩ := h; exact ⟨a, c, h1⟩

theorem r_at1 {T n : Nat} (ht : TyI P T false n) {I : Imm} {H : PH} {K : Value → Prop} {b o : Nat} {v : Value} (h : At (Bk I H) b o [v]) (hk : K v) : wRead P (Instr.loadAt T (ptr b o)) I H K := by
  obtain ⟨arr, E, fr, h1, h2⟩ := h
  exact ld1 ht h1 (by simpa using h2 0 v rfl) hk
theorem r_atN {T n : Nat} (ht : TyI P T true n) {I : Imm} {H : PH} {K : Value → Prop} {b o : Nat} {cs : List Value} (h : At (Bk I H) b o cs) (hl : cs.length = n) (hk : K (.agg cs.toArray)) : wRead P (Instr.loadAt T (ptr b o)) I H K := by
  obtain ⟨arr, E, fr, h1, h2⟩ := h
  exact ldN ht h1 hl h2 hk
/-- len of what reads as a list -/
theorem r_slen {T S ty : TypeId} {α : Type} {e : El α} {B : BR} {v : Value} {xs : List α} (hu : P.underlying T = some (.slice S)) (hs : Sl e B v xs) {I : Imm} {H : PH} {K : Value → Prop} (h : K (vi xs.length)) : wRead P (Builtin.len_ #[T] ty #[v]) I H K := by
  obtain ⟨a, c, rfl, _⟩ := hs
  exact r_len hu h
/-- the address of an element of what reads as a list -/
theorem p_sidx {T S : TypeId} {s : Nat} {agg : Bool} {α : Type} {e : El α} {B : BR} {v : Value} {xs : List α} (hu : P.underlying T = some (.slice S)) (ht : TyI P S agg s) (he : e.n = s) (hs : Sl e B v xs) {k : IntKind} {i : Int} {K : Value → Prop} {x : α} (h0 : 0 ≤ i) (hx : xs[i.toNat]? = some x)
    (h : ∀ b o, ElAt e B b o x → K (ptr b o)) : wPure P (Instr.indexAt T v (.int k i)) K := by
  obtain ⟨a, c, rfl, hc, hr⟩ := hs
  have hlt : i.toNat < xs.length := (List.getElem?_eq_some_iff.1 hx).1
  obtain ⟨b, o, rfl, hel⟩ := hr (fun h => by subst h; simp at hlt)
  refine p_index hu ht h0 (by omega) (h _ _ ?_)
  have := hel _ x hx
  rw [he] at this; exact this

structure En (α : Type) where
  n : Nat
  enc : α → List Value
  len : ∀ x, (enc x).length = n
  one : ∀ x, (enc x).all (·.oneCell') = true
def En.el {α : Type} (e : En α) : El α := ⟨e.n, fun _ cs x => cs = e.enc x, fun _ _ _ h => by rw [h]; exact e.len _, fun _ _ _ _ _ h => h⟩
def enInt : En Int := ⟨1, fun x => [vi x], fun _ => rfl, fun _ => rfl⟩
structure ID where
  c : Int
  s : Int
deriving DecidableEq
def enID : En ID := ⟨2, fun x => [vi x.c, vi x.s], fun _ => rfl, fun _ => rfl⟩
abbrev elInt : El Int := enInt.el
abbrev elID : El ID := enID.el
/-- a block of the call's own that holds a literal -/
theorem Sl.lit {α : Type} {e : El α} {B : BR} {b : Nat} {arr : Array Value} {E : TypeId} {fr : Nat × Nat} (hb : B b (.cells arr E fr)) {xs : List α} (n c : Nat) (hn : xs.length = n) (hc : n ≤ c) (o : Nat)
    (h : ∀ i x, xs[i]? = some x → ∃ cs, (∀ j v, cs[j]? = some v → arr[o + i * e.n + j]? = some v) ∧ e.rel B cs x) : Sl e B (slv b o n c) xs := by
  subst hn
  exact ⟨_, c, rfl, hc, fun _ => ⟨b, o, rfl, fun i x hx => by obtain ⟨cs, h1, h2⟩ := h i x hx; exact ⟨cs, ⟨arr, E, fr, hb, h1⟩, h2⟩⟩⟩

theorem Bk_own {I : Imm} {H : PH} {b : Nat} {o : Obj} (h : H b = some o) : Bk I H b o := .inl h
theorem two {α : Type} {p : Nat → α → Prop} {x y : α} (h0 : p 0 x) (h1 : p 1 y) : ∀ i z, [x, y][i]? = some z → p i z := by
  intro i z hz
  match i with
  | 0 => simp at hz; subst hz; exact h0
  | 1 => simp at hz; subst hz; exact h1
  | i + 2 => simp at hz
theorem one {α : Type} {p : Nat → α → Prop} {x : α} (h0 : p 0 x) : ∀ i z, [x][i]? = some z → p i z := by
  intro i z hz
  match i with
  | 0 => simp at hz; subst hz; exact h0
  | i + 1 => simp at hz
theorem lit_at {l : List Value} (pre cs post : List Value) {k : Nat} (h : l = pre ++ cs ++ post) (hk : k = pre.length) : ∀ j v, cs[j]? = some v → l.toArray[k + j]? = some v := by
  intro j v hj
  subst h hk
  have hlt : j < cs.length := (List.getElem?_eq_some_iff.1 hj).1
  rw [List.getElem?_toArray, List.append_assoc, List.getElem?_append_right (by omega), Nat.add_sub_cancel_left, List.getElem?_append_left hlt]
  exact hj
theorem ends {L : List (Nat × Obj)} {H : PH} (hnd : ND L H) {I : Imm} : ∀ w, Sat I (upds L H) w → Sat I H w := fun _ hw => hw.less (upds_sub hnd)
/-! ### Loops, tests -/
theorem loop_inv {F : KL → KL} {vs : List Value} {I : Imm} {H : PH} (J : Nat → KL) (m : Nat) (h0 : J m vs I H)
    (step : ∀ (n : Nat) (vs : List Value) (I : Imm) (H : PH) (k : KL), (∀ n' vs' I' H', n' < n → J n' vs' I' H' → k vs' I' H') → J n vs I H → F k vs I H) : wLoop F vs I H := by
  have key : ∀ (N n : Nat) (vs : List Value) (I : Imm) (H : PH), n < N → J n vs I H → iterW F N vs I H := by
    intro N
    induction N with
    | zero => intro n _ _ _ h; omega
    | succ N ih => exact fun n vs I H hn hj => step n vs I H _ (fun n' vs' I' H' h1 h2 => ih n' vs' I' H' (by omega) h2) hj
  exact ⟨m + 1, key (m + 1) m vs I H (by omega) h0⟩
theorem if_dec {c : Prop} [Decidable c] {A B : Prop} (ha : c → A) (hb : ¬ c → B) : wIf (.bool (decide c)) A B :=
  ⟨_, rfl, fun h => ha (by simpa using h), fun h => hb (by simpa using h)⟩
theorem if_ndec {c : Prop} [Decidable c] {A B : Prop} (ha : ¬ c → A) (hb : c → B) : wIf (.bool (!decide c)) A B :=
  ⟨_, rfl, fun h => ha (by simpa using h), fun h => hb (by simpa using h)⟩
theorem if_t {A B : Prop} (ha : A) : wIf (.bool true) A B := ⟨_, rfl, fun _ => ha, fun h => (nomatch h)⟩
theorem if_f {A B : Prop} (hb : B) : wIf (.bool false) A B := ⟨_, rfl, fun h => (nomatch h), fun _ => hb⟩
theorem if_b {b : Bool} {A B : Prop} (ha : b = true → A) (hb : b = false → B) : wIf (.bool b) A B := ⟨_, rfl, ha, hb⟩
theorem wrap_in {a : Int} (h0 : -9223372036854775808 ≤ a) (h1 : a ≤ 9223372036854775807) : IntKind.i64.wrap a = a := by
  exact IntWalk.i64_in a ⟨h0, h1⟩
theorem p_add {T : TypeId} {xc yc : Bool} {a b : Int} {K : Value → Prop} (h0 : -9223372036854775808 ≤ a + b) (h1 : a + b ≤ 9223372036854775807) (h : K (vi (a + b))) : wPure P (semBin .add T xc yc (vi a) (vi b)) K :=
  p_gen (run_add a b) (by rw [wrap_in h0 h1]; exact h)
theorem p_sub {T : TypeId} {xc yc : Bool} {a b : Int} {K : Value → Prop} (h0 : -9223372036854775808 ≤ a - b) (h1 : a - b ≤ 9223372036854775807) (h : K (vi (a - b))) : wPure P (semBin .sub T xc yc (vi a) (vi b)) K :=
  p_gen (run_sub a b) (by rw [wrap_in h0 h1]; exact h)
end Go.Proofs.Ytibgbapeblicjaa
