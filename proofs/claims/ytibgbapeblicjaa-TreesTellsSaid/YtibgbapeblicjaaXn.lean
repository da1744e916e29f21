/- The plain law of TreesTells, whole: links either way, degrees, what spans. -/
import Derived.Test.YtibgbapeblicjaaXm
set_option linter.unusedVariables false
namespace Go.Proofs.Ytibgbapeblicjaa
open Go

theorem swap_perm (l : List Int) (i j : Nat) (hi : i < l.length) (hj : j < l.length) : ((l.set i (l.getD j 0)).set j (l.getD i 0)).Perm l := by
  have e1 : l.getD j 0 = l[j] := by rw [List.getD_eq_getElem?_getD, List.getElem?_eq_getElem hj]; rfl
  have e2 : l.getD i 0 = l[i] := by rw [List.getD_eq_getElem?_getD, List.getElem?_eq_getElem hi]; rfl
  rw [e1, e2]
  exact List.set_set_perm hi hj
theorem bub_perm : ∀ (j : Nat) (l : List Int), j < l.length → (bub j l).Perm l
  | 0, _, _ => .refl _
  | j + 1, l, h => by
    unfold bub
    split
    · refine (bub_perm j _ (by simp; omega)).trans ?_
      exact swap_perm l (j + 1) j h (by omega)
    · exact .refl _
theorem isortN_perm : ∀ (k i : Nat) (l : List Int), i + k ≤ l.length → (isortN k i l).Perm l
  | 0, _, _, _ => .refl _
  | k + 1, i, l, h => by
    unfold isortN
    exact (isortN_perm k (i + 1) _ (by rw [bub_len]; omega)).trans (bub_perm i l (by omega))
theorem isort_perm (l : List Int) : (isort l).Perm l := by
  cases l with
  | nil => exact .refl _
  | cons x l => exact isortN_perm _ 1 _ (by simp; omega)
theorem mem_comp (l : List Int) (x : Int) : ∀ n, n ≤ l.length → (x ∈ comp l n ↔ x ∈ l.take n)
  | 0, _ => by simp [comp]
  | n + 1, h => by
    have ih := mem_comp l x n (by omega)
    rw [take_snoc l n (by omega)]
    by_cases h0 : n ≠ 0 ∧ l.getD n 0 = l.getD (n - 1) 0
    · rw [comp, if_pos h0, ih]
      have hm : l.getD n 0 ∈ l.take n := by
        obtain ⟨h1, h2⟩ := h0
        rw [h2]
        have : (l.take n)[n - 1]? = some (l.getD (n - 1) 0) := by
          rw [List.getElem?_take, if_pos (by omega), List.getD_eq_getElem?_getD, List.getElem?_eq_getElem (by omega)]; rfl
        exact List.mem_of_getElem? this
      simp only [List.mem_append, List.mem_singleton]
      exact ⟨.inl, fun h => h.elim id fun e => e ▸ hm⟩
    · rw [comp, if_neg h0]
      simp only [List.mem_append, ih]
theorem mem_nearL (nb : Int) (ls : List (Int × Int)) (a x : Int) : x ∈ nearL nb ls a ↔ x ∈ nearRaw nb a ls := by
  rw [nearL, compactL, mem_comp _ _ _ (Nat.le_refl _), List.take_length]
  exact (isort_perm _).mem_iff
theorem mem_nearOf (nb a x : Int) (l : Int × Int) : x ∈ nearOf nb a l ↔ mayL nb l = true ∧ (l = (a, x) ∨ l = (x, a)) := by
  obtain ⟨p, q⟩ := l
  unfold nearOf
  cases hm : mayL nb (p, q) with
  | false => simp
  | true =>
    have hne : p ≠ q := fun e => by subst e; simp [mayL] at hm
    simp only [if_true, true_and, Prod.mk.injEq]
    by_cases h1 : p = a
    · subst h1
      rw [if_pos rfl]
      simp only [List.mem_singleton, true_and]
      constructor
      · exact fun h => .inl h.symm
      · rintro (h | ⟨h, h2⟩)
        · exact h.symm
        · exact absurd (h2.symm ▸ rfl) hne
    · rw [if_neg h1]
      by_cases h2 : q = a
      · subst h2
        rw [if_pos rfl]
        simp only [List.mem_singleton]
        constructor
        · exact fun h => .inr ⟨h.symm, trivial⟩
        · rintro (⟨h, _⟩ | ⟨h, _⟩)
          · exact absurd h h1
          · exact h.symm
      · rw [if_neg h2]
        simp only [List.not_mem_nil, false_iff, not_or, not_and]
        exact ⟨fun h => absurd h h1, fun _ h => h2 h⟩
theorem mem_near {nb : Int} {ls : List (Int × Int)} {a x : Int} : x ∈ nearL nb ls a ↔ ∃ l ∈ ls, mayL nb l = true ∧ (l = (a, x) ∨ l = (x, a)) := by
  rw [mem_nearL, nearRaw, List.mem_flatMap]
  exact ⟨fun ⟨l, h1, h2⟩ => ⟨l, h1, (mem_nearOf _ _ _ _).1 h2⟩, fun ⟨l, h1, h2⟩ => ⟨l, h1, (mem_nearOf _ _ _ _).2 h2⟩⟩
theorem near_symm {nb : Int} {ls : List (Int × Int)} {a x : Int} : x ∈ nearL nb ls a ↔ a ∈ nearL nb ls x := by
  rw [mem_near, mem_near]
  exact ⟨fun ⟨l, h1, h2, h3⟩ => ⟨l, h1, h2, h3.symm⟩, fun ⟨l, h1, h2, h3⟩ => ⟨l, h1, h2, h3.symm⟩⟩

/-! ### What is made of numbers is a graph -/
structure LK (nb : Int) (ls : List (Int × Int)) : Prop where
  inn : ∀ l ∈ ls, mayL nb l = true
  nd : ls.Nodup
  one : ∀ l ∈ ls, (l.2, l.1) ∉ ls
theorem LK.nil (nb : Int) : LK nb [] := ⟨by simp, by simp, by simp⟩
theorem LK.put {nb : Int} {ls : List (Int × Int)} (h : LK nb ls) {a b : Int} (ha : 0 ≤ a ∧ a < nb) (hb : 0 ≤ b ∧ b < nb) : LK nb (putL ls a b) := by
  unfold putL
  split
  · rename_i hc
    obtain ⟨h1, h2, h3⟩ := hc
    have hm : mayL nb (a, b) = true := by simp [mayL, inB, ha, hb, h1]
    refine ⟨fun l hl => ?_, ?_, fun l hl => ?_⟩
    · rcases List.mem_append.1 hl with hl | hl
      · exact h.inn l hl
      · simp at hl; subst hl; exact hm
    · rw [List.nodup_append]
      refine ⟨h.nd, by simp, fun x hx y hy => ?_⟩
      simp at hy; subst hy
      exact fun e => h2 (e ▸ hx)
    · intro hs
      rcases List.mem_append.1 hl with hl | hl <;> rcases List.mem_append.1 hs with hs | hs
      · exact h.one l hl hs
      · simp at hs
        have : l = (b, a) := Prod.ext hs.2 hs.1
        exact h3 (this ▸ hl)
      · simp at hl; subst hl; exact h3 hs
      · simp at hl; subst hl; simp at hs; exact h1 hs.2
  · exact h
theorem treeGo_LK (us : List Int) (nb : Int) : ∀ (k b : Nat) (ls : List (Int × Int)), LK nb ls → 1 ≤ b → (b : Int) + k ≤ nb → LK nb (treeGo us k b ls)
  | 0, _, _, h, _, _ => h
  | k + 1, b, ls, h, h1, h2 => by
    have hw := within_in (pickL us b) (lo := 0) (hi := (b : Int) - 1) (by omega)
    exact treeGo_LK us nb k (b + 1) _ (h.put ⟨by omega, by omega⟩ ⟨by omega, by omega⟩) (by omega) (by omega)
theorem moreGo_LK (nb : Int) (ms : List Int) (hnb : 1 ≤ nb) : ∀ (k i : Nat) (ls : List (Int × Int)), LK nb ls → LK nb (moreGo nb ms k i ls)
  | 0, _, _, h => h
  | k + 1, i, ls, h => by
    have hw := within_in (ms.getD i 0) (lo := 0) (hi := nb - 1) (by omega)
    have hw2 := within_in (IntKind.i64.wrap ((ms.getD i 0).tdiv 8)) (lo := 0) (hi := nb - 1) (by omega)
    exact moreGo_LK nb ms hnb k (i + 1) _ (h.put ⟨by omega, by omega⟩ ⟨by omega, by omega⟩)
theorem graphL_LK (nb : Nat) (us ms : List Int) (h : 1 ≤ nb) : LK nb (graphL nb us ms) :=
  moreGo_LK _ _ (by omega) _ _ _ (treeGo_LK _ _ _ _ _ (LK.nil _) (by omega) (by omega))
theorem treeGo_len (us : List Int) : ∀ (k b : Nat) (ls : List (Int × Int)), (treeGo us k b ls).length ≤ ls.length + k
  | 0, _, _ => Nat.le_refl _
  | k + 1, b, ls => by
    have h1 := treeGo_len us k (b + 1) (putL ls b (within (pickL us b) 0 ((b : Int) - 1)))
    have h2 := putL_len ls b (within (pickL us b) 0 ((b : Int) - 1))
    simp only [treeGo]; omega
theorem moreGo_len (nb : Int) (ms : List Int) : ∀ (k i : Nat) (ls : List (Int × Int)), (moreGo nb ms k i ls).length ≤ ls.length + k
  | 0, _, _ => Nat.le_refl _
  | k + 1, i, ls => by
    have h1 := moreGo_len nb ms k (i + 1) (putL ls (within (ms.getD i 0) 0 (nb - 1)) (within (IntKind.i64.wrap ((ms.getD i 0).tdiv 8)) 0 (nb - 1)))
    have h2 := putL_len ls (within (ms.getD i 0) 0 (nb - 1)) (within (IntKind.i64.wrap ((ms.getD i 0).tdiv 8)) 0 (nb - 1))
    simp only [moreGo]; omega
theorem graphL_len (nb : Nat) (us ms : List Int) : (graphL nb us ms).length ≤ nb + 8 := by
  have h1 := moreGo_len nb ms (min ms.length 8) 0 (treeGo us (nb - 1) 1 [])
  have h2 := treeGo_len us (nb - 1) 1 []
  simp only [List.length_nil] at h2
  unfold graphL; omega
theorem nearRaw_nd {nb a : Int} : ∀ {ls : List (Int × Int)}, LK nb ls → (nearRaw nb a ls).Nodup
  | [], _ => by simp [nearRaw]
  | l :: ls, h => by
    have h' : LK nb ls := ⟨fun x hx => h.inn x (.tail _ hx), (List.nodup_cons.1 h.nd).2, fun x hx hs => h.one x (.tail _ hx) (.tail _ hs)⟩
    have ih := nearRaw_nd (a := a) h'
    have e : nearRaw nb a (l :: ls) = nearOf nb a l ++ nearRaw nb a ls := by simp [nearRaw]
    rw [e, List.nodup_append]
    refine ⟨?_, ih, fun x hx y hy hxy => ?_⟩
    · unfold nearOf; split
      · split
        · simp
        · split <;> simp
      · simp
    · subst hxy
      obtain ⟨_, h1⟩ := (mem_nearOf _ _ _ _).1 hx
      have hy' := (mem_nearL nb ls a x).2 hy
      obtain ⟨l', hl', _, h2⟩ := mem_near.1 hy'
      have hn := (List.nodup_cons.1 h.nd).1
      have ho := h.one l (.head _)
      rcases h1 with h1 | h1 <;> rcases h2 with h2 | h2
      · exact hn (by rw [h1, ← h2]; exact hl')
      · exact ho (by rw [h1]; exact .tail _ (h2 ▸ hl'))
      · exact ho (by rw [h1]; exact .tail _ (h2 ▸ hl'))
      · exact hn (by rw [h1, ← h2]; exact hl')
theorem nearRaw_deg {nb : Nat} {a : Int} {ls : List (Int × Int)} (h : LK nb ls) : (nearRaw nb a ls).length ≤ nb := by
  refine pigeon _ _ (nearRaw_nd h) fun x hx => ?_
  obtain ⟨l, _, h2, h3⟩ := mem_near.1 ((mem_nearL nb ls a x).2 hx)
  simp only [mayL, inB, Bool.and_eq_true, decide_eq_true_eq] at h2
  rcases h3 with rfl | rfl
  · exact h2.1.2
  · exact h2.1.1

/-! ### What spans -/
theorem tellGo_off (nb : Int) (ls : List (Int × Int)) (p : List Int) : ∀ (f i r : Nat), (tellGo nb ls p f i (r, false)).2 = false
  | 0, _, _ => rfl
  | f + 1, i, r => by
    rw [tellGo, stepT]
    split <;> (simp only [Bool.false_and]; exact tellGo_off nb ls p f _ _)
theorem spansGo_off {nb : Int} {ls : List (Int × Int)} {p : List Int} (h : ¬ (p.length : Int) = nb) : ∀ (f i r : Nat), spansGo nb ls p f i r = false
  | 0, _, _ => by simp [spansGo, h]
  | f + 1, i, r => by
    rw [spansGo]
    split
    · split
      · rfl
      · exact spansGo_off h f _ _
    · split
      · split
        · rfl
        · exact spansGo_off h f _ _
      · rfl
theorem spans_tell {nb : Int} {ls : List (Int × Int)} {p : List Int} (h8 : p.length ≤ 10) (h : (p.length : Int) = nb) : ∀ (f i r : Nat), spansGo nb ls p f i r = ((tellGo nb ls p f i (r, true)).2 && decide ((tellGo nb ls p f i (r, true)).1 = 1))
  | 0, _, r => by rw [spansGo, tellGo, decide_eq_true h]
  | f + 1, i, r => by
    rw [spansGo, tellGo, stepT]
    have hp := path_eq (ps := p) h8 i
    by_cases h1 : p.getD i 0 = -1
    · rw [if_pos h1, if_pos h1]
      by_cases h2 : (pathL p i).length = 0
      · rw [if_pos h2]
        have : decide (0 < (path10 p i).length) = false := by rw [← hp]; exact decide_eq_false (by omega)
        simp only [this, Bool.and_false]
        rw [tellGo_off]; rfl
      · rw [if_neg h2]
        have : decide (0 < (path10 p i).length) = true := by rw [← hp]; exact decide_eq_true (by omega)
        simp only [this, Bool.and_true]
        exact spans_tell h8 h f (i + 1) (r + 1)
    · rw [if_neg h1, if_neg h1]
      by_cases h3 : (i : Int) ∈ nearL nb ls (p.getD i 0)
      · rw [if_pos h3]
        have h3' := near_symm.1 h3
        by_cases h2 : (pathL p i).length = 0
        · rw [if_pos h2]
          have : decide (0 < (path10 p i).length) = false := by rw [← hp]; exact decide_eq_false (by omega)
          simp only [this, Bool.and_false]
          rw [tellGo_off]; rfl
        · rw [if_neg h2]
          have : decide (0 < (path10 p i).length) = true := by rw [← hp]; exact decide_eq_true (by omega)
          simp only [this, h3', decide_true, Bool.and_true]
          exact spans_tell h8 h f (i + 1) r
      · rw [if_neg h3]
        have h3' : ¬ p.getD i 0 ∈ nearL nb ls i := fun h => h3 (near_symm.1 h)
        simp only [h3', decide_false, Bool.and_false, Bool.false_and]
        rw [tellGo_off]; rfl
theorem tells_true (nb : Nat) (ls : List (Int × Int)) (p : List Int) (x : Int) (h8 : p.length ≤ 8) : tells nb ls p x = true := by
  unfold tells
  have h1 := path_eq (ps := p) (by omega) x
  have h2 := below_eq (p := p) (by omega) x
  simp only [h1, h2, decide_true, Bool.true_and, beq_iff_eq]
  by_cases h : (p.length : Int) = nb
  · rw [decide_eq_true h]
    exact spans_tell (by omega) h _ _ _
  · rw [decide_eq_false h, spansL, spansGo_off h, tellGo_off]; rfl
set_option maxRecDepth 100000
theorem Tells_true {uv mv av : Value} {us ms ps : List Int} (br b : Int) (I : Imm) (H : PH) (hu : Sl elInt (Bk I H) uv us) (hmm : Sl elInt (Bk I H) mv ms) (hps : Sl elInt (Bk I H) av ps) :
    CallA PP 3 [kgv br uv mv, av, vi b] I H (fun v _ _ => v = .bool true) := by
  have hw := within_in br (lo := 1) (hi := 7) (by decide)
  refine (Tells_spec br b I H (fun nb hnb a => ?_) (fun nb hnb => ?_) hu hmm hps).mono ?_
  · have := nearRaw_deg (a := a) (graphL_LK nb us ms (by omega))
    omega
  · have := graphL_len nb us ms
    omega
  · rintro _ _ _ - ⟨nb, _, rfl⟩
    rw [tells_true _ _ _ _ (by rw [tellP_len]; omega)]
end Go.Proofs.Ytibgbapeblicjaa
