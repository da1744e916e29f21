/- Arguments opened by their types, whatever they are: what reads as data reads as lists of typed cells; behind the call each argument reads as it did. -/
import Derived.Test.YtibgbapeblicjaaWr
import Derived.WideKeyArgs
import Derived.ChangeArms
import Derived.DataReads
set_option linter.unusedVariables false
namespace Go.Proofs.Ytibgbapeblicjaa
open Go
open Go.ChangeShapes Go.WideShapes Go.ChangeAt Go.RowKit

/-- What cells of a type hold: in the words of the type alone. -/
def Rd (P : Program) (B : BR) : Nat → TypeId → List Value → Prop
  | 0, _, _ => False
  | f + 1, t, cs =>
    match P.underlying t with
    | some .bool => ∃ b, cs = [.bool b]
    | some (.int k) => ∃ n, cs = [.int k n] ∧ (Lit.int k n).wf = true
    | some .string => ∃ s : ByteArray, cs = [.string s] ∧ s.size ≤ maxLen
    | some (.slice e) => ∃ a len cap, cs = [.slice a len cap] ∧ len ≤ cap ∧ cap ≤ maxLen ∧
        (len ≠ 0 → ∃ b o, a = some ⟨b, o, none⟩ ∧ ∀ i, i < len → ∃ cs', cs'.length = P.cellsOf e ∧ At B b (o + i * P.cellsOf e) cs' ∧ Rd P B f e cs')
    | some (.struct fs) => cs.length = P.cellsOf t ∧ ∀ (i : Nat) (fl : Field), fs[i]? = some fl → Rd P B f fl.type ((cs.drop fl.offset).take (P.cellsOf fl.type))
    | _ => True
section
variable {H : Type} {enc : TypeId × Value → H} {P : Program} {w : World}
theorem at_of_cells {b o n : Nat} {cs : List Value} (hn : cs.length = n) (hp : 0 < n) {sp : Option Nat} (h : ∀ i, i < n → w.cell? ((⟨b, o, sp⟩ : Addr).add i) = cs[i]?) : At (fun b o => w.heap[b]? = some o) b o cs ∧ sp = none := by
  have h0 := h 0 hp
  have e0 : ((⟨b, o, sp⟩ : Addr).add 0) = ⟨b, o, sp⟩ := by simp [Addr.add]
  rw [e0] at h0
  have hc : cs[0]? = some (cs[0]'(by omega)) := by simp
  rw [hc] at h0
  unfold World.cell? at h0
  simp only at h0
  cases hb : w.heap[b]? with
  | none => rw [hb] at h0; cases h0
  | some ob =>
    rw [hb] at h0
    cases ob with
    | cells arr E fr =>
      simp only at h0
      cases sp with
      | some s => simp at h0
      | none =>
        refine ⟨⟨arr, E, fr, hb, fun j v hj => ?_⟩, rfl⟩
        have hlt := (List.getElem?_eq_some_iff.1 hj).1
        have h1 := h j (by omega)
        rw [add_off] at h1
        rw [hj] at h1
        simpa [World.cell?, hb] using h1
    | _ => simp at h0
def okT (P : Program) (t : TypeId) : Bool := P.readableRec t && decide (t < P.types.size)
theorem rd_of_trod {base : Nat} {sp : Nat → Bool} {hd : Bool} (hpos : ∀ t e, P.underlying t = some (.slice e) → okT P t = true → 0 < P.cellsOf e ∧ okT P e = true)
    (hst : ∀ t fs (i : Nat) (fl : Field), P.underlying t = some (.struct fs) → okT P t = true → fs[i]? = some fl → okT P fl.type = true) :
    ∀ (f : Nat) (t : TypeId) (cs : List Value) (x : DataW H × List MemPlace), okT P t = true → DataW.trod enc P w base sp hd f t cs = some x → Rd P (fun b o => w.heap[b]? = some o) f t cs
  | 0, _, _, _, _, h => by simp [DataW.trod] at h
  | f + 1, t, cs, x, hr, h => by
    unfold Rd
    split
    · rename_i hu; obtain ⟨b, rfl, _⟩ := DataW.trod_bool hu h; exact ⟨b, rfl⟩
    · rename_i k hu; obtain ⟨n, rfl, _, hw⟩ := DataW.trod_int hu h; exact ⟨n, rfl, hw⟩
    · rename_i hu; obtain ⟨s, rfl, _, hs⟩ := DataW.trod_string hu h; exact ⟨s, rfl, hs⟩
    · rename_i e hu
      obtain ⟨h0, hre⟩ := hpos t e hu hr
      rcases DataW.trod_slice hu h with ⟨rfl, _⟩ | ⟨a, len, cap, elems, rest, n, hn, rfl, rfl, hb, hl, hm, hlen, hel, _, _⟩
      · exact ⟨none, 0, 0, rfl, by omega, by simp, fun h => absurd rfl h⟩
      · obtain rfl : f = n := by omega
        refine ⟨some a, len, cap, rfl, hl, hm, fun h00 => ?_⟩
        obtain ⟨b, o, sp'⟩ := a
        have each : ∀ i, i < len → ∃ cs', w.cells? base ((⟨b, o, sp'⟩ : Addr).add (i * P.cellsOf e)) (P.cellsOf e) = some cs' ∧ Rd P (fun b o => w.heap[b]? = some o) f e cs' := by
          intro i hi
          have h1 := hel i hi
          have hi' : i < elems.length := by omega
          rw [List.getElem?_eq_getElem hi'] at h1
          obtain ⟨cs', h2, h3⟩ := Option.bind_eq_some_iff.1 h1
          exact ⟨cs', h2, rd_of_trod hpos hst f e cs' _ hre h3⟩
        have hsp : sp' = none := by
          obtain ⟨cs', h2, _⟩ := each 0 (by omega)
          obtain ⟨_, h4, h5⟩ := World.cells?_some h2
          have e0 : ((⟨b, o, sp'⟩ : Addr).add (0 * P.cellsOf e)) = ⟨b, o, sp'⟩ := by simp [Addr.add]
          rw [e0] at h5
          exact (at_of_cells h4 h0 h5).2
        subst hsp
        refine ⟨b, o, rfl, fun i hi => ?_⟩
        obtain ⟨cs', h2, h3⟩ := each i hi
        rw [add_off] at h2
        obtain ⟨_, h4, h5⟩ := World.cells?_some h2
        exact ⟨cs', h4, (at_of_cells h4 h0 h5).1, h3⟩
    · rename_i fs hu
      obtain ⟨xs, n, hn, rfl, hlen, hxl, hf⟩ := DataW.trod_struct hu h
      obtain rfl : f = n := by omega
      refine ⟨hlen, fun i fl hfl => ?_⟩
      have h1 := hf i fl hfl
      have hi : i < xs.length := by rw [hxl]; exact (Array.getElem?_eq_some_iff.1 hfl).1
      rw [List.getElem?_eq_getElem hi] at h1
      exact rd_of_trod hpos hst f fl.type _ _ (hst t fs i fl hu hr hfl) h1
    · trivial
/-- The side conditions as one closed fact. -/
def kidsB (P : Program) : Bool := (List.range P.types.size).all fun t => !P.readableRec t || (match P.underlying t with
  | some (.slice e) => decide (0 < P.cellsOf e) && okT P e
  | some (.struct fs) => fs.toList.all fun fl => okT P fl.type
  | _ => true)
theorem Rd.mono {B B' : BR} (hs : SubB B B') : ∀ (f : Nat) (t : TypeId) (cs : List Value), Rd P B f t cs → Rd P B' f t cs
  | 0, _, _, h => h
  | f + 1, t, cs, h => by
    unfold Rd at h ⊢
    split at h
    · exact h
    · exact h
    · exact h
    · obtain ⟨a, len, cap, h1, h2, h3, h4⟩ := h
      refine ⟨a, len, cap, h1, h2, h3, fun h0 => ?_⟩
      obtain ⟨b, o, h5, h6⟩ := h4 h0
      exact ⟨b, o, h5, fun i hi => by obtain ⟨cs', h7, h8, h9⟩ := h6 i hi; exact ⟨cs', h7, h8.mono hs, Rd.mono hs f _ _ h9⟩⟩
    · exact ⟨h.1, fun i fl hfl => Rd.mono hs f _ _ (h.2 i fl hfl)⟩
    · trivial
section
variable {B : BR} {f t : Nat} {cs : List Value}
theorem Rd.int {k : IntKind} (hu : P.underlying t = some (.int k)) (h : Rd P B f t cs) : ∃ n, cs = [.int k n] ∧ (Lit.int k n).wf = true := by
  cases f with
  | zero => exact h.elim
  | succ f => unfold Rd at h; simpa only [hu] using h
theorem Rd.bool (hu : P.underlying t = some .bool) (h : Rd P B f t cs) : ∃ b, cs = [.bool b] := by
  cases f with
  | zero => exact h.elim
  | succ f => unfold Rd at h; simpa only [hu] using h
theorem Rd.string (hu : P.underlying t = some .string) (h : Rd P B f t cs) : ∃ s : ByteArray, cs = [.string s] ∧ s.size ≤ maxLen := by
  cases f with
  | zero => exact h.elim
  | succ f => unfold Rd at h; simpa only [hu] using h
theorem Rd.struct {fs : Array Field} (hu : P.underlying t = some (.struct fs)) (h : Rd P B f t cs) : cs.length = P.cellsOf t ∧ ∀ (i : Nat) (fl : Field), fs[i]? = some fl → ∃ f', Rd P B f' fl.type ((cs.drop fl.offset).take (P.cellsOf fl.type)) := by
  cases f with
  | zero => exact h.elim
  | succ f =>
    unfold Rd at h
    simp only [hu] at h
    exact ⟨h.1, fun i fl hfl => ⟨f, h.2 i fl hfl⟩⟩
theorem Rd.slice {E : TypeId} (hu : P.underlying t = some (.slice E)) (h : Rd P B f t cs) {α : Type} (e : El α) (he : P.cellsOf E = e.n) (Q : α → Prop) (hel : ∀ f' cs', cs'.length = e.n → Rd P B f' E cs' → ∃ x, e.rel B cs' x ∧ Q x) :
    ∃ (v : Value) (xs : List α), cs = [v] ∧ Sl e B v xs ∧ xs.length ≤ maxLen ∧ ∀ x ∈ xs, Q x := by
  cases f with
  | zero => exact h.elim
  | succ f =>
    unfold Rd at h
    simp only [hu] at h
    obtain ⟨a, len, cap, rfl, h2, h3, h4⟩ := h
    by_cases h0 : len = 0
    · subst h0
      exact ⟨_, [], rfl, ⟨a, cap, rfl, by simp, fun h => absurd rfl h⟩, by simp, fun _ h => (nomatch h)⟩
    · obtain ⟨b, o, rfl, h5⟩ := h4 h0
      rw [he] at h5
      have ex : ∀ i, ∃ x : α, i < len → ElAt e B b (o + i * e.n) x ∧ Q x := fun i => by
        by_cases hi : i < len
        · obtain ⟨cs', h6, h7, h8⟩ := h5 i hi
          obtain ⟨x, h9, h10⟩ := hel f cs' h6 h8
          exact ⟨x, fun _ => ⟨⟨cs', h7, h9⟩, h10⟩⟩
        · obtain ⟨cs', h6, h7, h8⟩ := h5 0 (by omega)
          obtain ⟨x, h9, h10⟩ := hel f cs' h6 h8
          exact ⟨x, fun h => absurd h hi⟩
      refine ⟨_, (List.range len).map fun i => (ex i).choose, rfl, ⟨_, cap, by simp, by simpa using h2, fun _ => ⟨b, o, rfl, fun i x hx => ?_⟩⟩, by simp; omega, fun x hx => ?_⟩
      · rw [List.getElem?_map] at hx
        obtain ⟨j, hj, rfl⟩ := Option.map_eq_some_iff.1 hx
        obtain ⟨hlt, hj2⟩ := List.getElem?_eq_some_iff.1 hj
        simp at hj2 hlt; subst hj2
        exact ((ex i).choose_spec hlt).1
      · obtain ⟨i, hi, rfl⟩ := List.mem_map.1 hx
        exact ((ex i).choose_spec (List.mem_range.1 hi)).2
end
theorem stays_all (hl : laidOutB P = true) {W W' : World} {sp' : Nat → Bool} (hb : Below W.heap.size W W') : ∀ (ts : List TypeId) (vs : List Value) (ds : List (DataW H)) (ps : List MemPlace),
    (ts.all fun t => P.readableRec t && decide (t < P.types.size)) = true → DataW.TrodAll enc P W 0 (fun _ => true) true ts vs ds ps → (∀ p ∈ ps, p.block < W.heap.size) → (∀ p ∈ ps, sp' p.block = true) → DataW.TrodAll enc P W' 0 sp' true ts vs ds ps
  | [], vs, ds, ps, _, h, _, _ => by
    obtain ⟨rfl, rfl, rfl⟩ := trodAll_nil h
    rfl
  | t :: ts, vs, ds, ps, hr, h, hlt, hs => by
    obtain ⟨v, vs1, d, ds1, a, b, rfl, rfl, rfl, h1, h2⟩ := trodAll_cons h
    simp only [List.all_cons, Bool.and_eq_true, decide_eq_true_eq] at hr
    exact ⟨a, b, WideElems.Trod_stays hl hr.1.1 hr.1.2 h1 (fun x hx => hb.same (hlt x (List.mem_append_left _ hx))) (fun x hx => hs x (List.mem_append_left _ hx)),
      stays_all hl hb ts vs1 ds1 b (by simpa using hr.2) h2 (fun x hx => hlt x (List.mem_append_right _ hx)) (fun x hx => hs x (List.mem_append_right _ hx)), rfl⟩
end
/-! ### A law's call: from what is known of its arguments to what a row asks -/
structure Arg (P : Program) (B : BR) (t : TypeId) (v : Value) : Prop where
  rd : ∃ fuel, Rd P B fuel t v.cells.toList
  agg : (P.underlying t).map aggD = some true → ∃ cs, v = .agg cs
  one : (P.underlying t).map aggD = some false → ∀ c, v.cells.toList = [c] → v = c
def Args (P : Program) (B : BR) (ts : List TypeId) (vs : List Value) : Prop := vs.length = ts.length ∧ ∀ (j : Nat) t v, ts[j]? = some t → vs[j]? = some v → Arg P B t v
theorem kids_of {P : Program} (h : kidsB P = true) {t : TypeId} (hr : okT P t = true) : (match P.underlying t with
  | some (.slice e) => decide (0 < P.cellsOf e) && okT P e
  | some (.struct fs) => fs.toList.all fun fl => okT P fl.type
  | _ => true) = true := by
  simp only [okT, Bool.and_eq_true, decide_eq_true_eq] at hr
  have h1 := List.all_eq_true.1 h t (List.mem_range.2 hr.2)
  rw [hr.1] at h1
  simpa using h1
theorem rd_args {H : Type} {enc : TypeId × Value → H} {P : Program} {w : World} (hk : kidsB P = true) {base : Nat} {sp : Nat → Bool} {hd : Bool} {t : TypeId} {v : Value} {d : DataW H} {ps : List MemPlace} (hr : okT P t = true) (h : DataW.Trod enc P w base sp hd t v d ps) : ∃ fuel, Rd P (fun b o => w.heap[b]? = some o) fuel t v.cells.toList := by
  obtain ⟨fuel, hf⟩ := h
  refine ⟨fuel, rd_of_trod (fun t e hu hr => ?_) (fun t fs i fl hu hr hfl => ?_) fuel t _ _ hr hf⟩
  · have := kids_of hk hr
    rw [hu] at this
    simpa using this
  · have := kids_of hk hr
    rw [hu] at this
    exact List.all_eq_true.1 this fl (Array.mem_toList_iff.2 (Array.mem_of_getElem? hfl))
theorem arg_of {H : Type} {enc : TypeId × Value → H} {P : Program} {w : World} (hk : kidsB P = true) {base b0 : Nat} {sp : Nat → Bool} {hd : Bool} {t : TypeId} {v : Value} {d : DataW H} {ps : List MemPlace} (hr : okT P t = true) (h : DataW.Trod enc P w base sp hd t v d ps)
    (hv : Value.okWide P w .any b0 t v) : Arg P (fun b o => w.heap[b]? = some o) t v := by
  refine ⟨rd_args hk hr h, fun ha => ?_, fun ha c hc => ?_⟩
  · unfold Value.okWide at hv
    cases hu : P.underlying t with
    | none => rw [hu] at ha; cases ha
    | some d =>
      rw [hu] at ha hv
      cases d <;> simp [aggD] at ha <;> exact ⟨_, hv.choose_spec.1⟩
  · cases v with
    | agg cs =>
      exfalso
      unfold Value.okWide at hv
      cases hu : P.underlying t with
      | none => rw [hu] at ha; cases ha
      | some d =>
        rw [hu] at ha hv
        cases d <;> simp [aggD] at ha <;> simp [Cell.okWide, Cell.ok, hu] at hv
    | _ => simp [Value.cells] at hc; exact hc
theorem args_of {H : Type} {enc : TypeId × Value → H} {P : Program} {w : World} (hk : kidsB P = true) {base b0 : Nat} {sp : Nat → Bool} {hd : Bool} : ∀ (ts : List TypeId) (vs : List Value) (ds : List (DataW H)) (ps : List MemPlace),
    (ts.all fun t => P.readableRec t && decide (t < P.types.size)) = true → DataW.TrodAll enc P w base sp hd ts vs ds ps → (∀ (j : Nat) t v, ts[j]? = some t → vs[j]? = some v → Value.okWide P w .any b0 t v) →
    Args P (fun b o => w.heap[b]? = some o) ts vs ∧ ds.length = ts.length
  | [], vs, ds, ps, _, h, _ => by
    obtain ⟨rfl, rfl, rfl⟩ := trodAll_nil h
    exact ⟨⟨rfl, fun j t v h => by simp at h⟩, rfl⟩
  | t :: ts, vs, ds, ps, hr, h, hv => by
    obtain ⟨v, vs1, d, ds1, a, b, rfl, rfl, rfl, h1, h2⟩ := trodAll_cons h
    simp only [List.all_cons, Bool.and_eq_true, decide_eq_true_eq] at hr
    obtain ⟨⟨h3, h4⟩, h5⟩ := args_of hk ts vs1 ds1 b (by simpa using hr.2) h2 (fun j t v h h' => hv (j + 1) t v (by simpa using h) (by simpa using h'))
    refine ⟨⟨by simp [h3], fun j t' v' hj hj' => ?_⟩, by simp [h5]⟩
    cases j with
    | zero => simp at hj hj'; subst hj hj'; exact arg_of hk (by simp [okT, hr.1.1, hr.1.2]) h1 (hv 0 _ _ rfl rfl)
    | succ j => exact h4 j t' v' (by simpa using hj) (by simpa using hj')
theorem law_calls {H : Type} {enc : TypeId × Value → H} {P : Program} {f : FuncId} {fn : Func} {s : ChangeSpec} {tb : TypeId} (hlo : laidOutB P = true) (hk : kidsB P = true) (hr : (fn.params.toList.all fun t => P.readableRec t && decide (t < P.types.size)) = true)
    (hfn : P.funcs[f]? = some fn) (hb : fn.body.isSome = true) (hnm : (fn.name == "runtime.NumGoroutine") = false) (hvars : s.vars = []) (hres : fn.resultTypes = #[tb]) (hbool : P.underlying tb = some .bool)
    (hspec : ∀ ds : List (DataW H), ds.length = fn.params.toList.length → s.fn H ds = { results := [.lit (.bool true)], args := ds })
    (hcall : ∀ (W : World) (vs : List Value), Args P (Im (immOf W)) fn.params.toList vs → CallA P f vs (immOf W) none' (fun v _ _ => v = .bool true)) {apart fresh handsOn again : Bool}
    (W : World) (base : Nat) (args : Array Value) (ds gs : List (DataW H)) (before : List MemPlace)
    (hval : ∀ (j : Nat) t v, fn.params[j]? = some t → args[j]? = some v → Value.okWide P W .any base t v) (hW : DataW.Whole enc P fn.params.toList s.vars apart W args.toList ds gs before) :
    Calls P f args W fun e W' => ∃ v, e = .returned v ∧ s.post enc P fn apart fresh handsOn again W args v W' := by
  have hW' := hW
  obtain ⟨p, q, hA, hV, rfl, hfz, hnd⟩ := hW
  rw [hvars] at hV
  obtain ⟨rfl, rfl⟩ := trodVars_none hV
  obtain ⟨ha, hl⟩ := args_of (b0 := base) hk _ _ _ _ hr hA (fun j t v h h' => hval j t v (by simpa using h) (by simpa using h'))
  have hc := calls_of hfn hb hnm (hcall W args.toList ha)
  rw [show args.toList.toArray = args from by simp] at hc
  have hs := hspec ds hl
  refine hc.mono fun e W' ⟨⟨v, he, hv⟩, hbel⟩ => ?_
  subst he hv
  have hlt : ∀ x ∈ p, x.block < W.heap.size := fun x hx => hW'.lt x (List.mem_append_left _ hx)
  refine ⟨_, rfl, row_post (pa := p) (pv := []) hW' hbel (hbel.frame _) rfl (fun b sp hd => ?_) (fun sp hsp => ?_) (fun sp _ => ?_) ?_⟩
  · rw [List.append_nil, hs, hres]
    exact trodAll_cons_mk (shut_bool hbool _) trodAll_mk0
  · rw [List.append_nil, hs]
    exact stays_all hlo hbel _ _ _ _ hr hA hlt (fun x hx => hsp x (List.mem_append_left _ hx))
  · rw [List.append_nil, hs, hvars]; rfl
  · exact ok_one hres rfl (okWide_bool_mk hbool _)
end Go.Proofs.Ytibgbapeblicjaa
