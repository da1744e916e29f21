/- The plain law of TreesTells: paths run in no ring, so ten steps and as many steps as there are brokers say the same. -/
import Derived.Test.YtibgbapeblicjaaXl
set_option linter.unusedVariables false
namespace Go.Proofs.Ytibgbapeblicjaa
open Go

theorem pigeon : ∀ (n : Nat) (l : List Int), l.Nodup → (∀ x ∈ l, 0 ≤ x ∧ x < n) → l.length ≤ n
  | 0, l, _, h => by
    cases l with
    | nil => simp
    | cons x l => have := h x (.head _); omega
  | n + 1, l, hn, h => by
    by_cases hm : (n : Int) ∈ l
    · have h1 := pigeon n (l.erase n) (hn.erase _) (fun x hx => by
        have hx' := (hn.mem_erase_iff).1 hx
        have := h x hx'.2
        have : x ≠ n := hx'.1
        omega)
      rw [List.length_erase_of_mem hm] at h1
      omega
    · have := pigeon n l hn (fun x hx => by
        have h1 := h x hx
        have : x ≠ n := fun e => hm (e ▸ hx)
        omega)
      omega

/-! ### Paths -/
def ok (ps : List Int) (v : Int) : Prop := 0 ≤ v ∧ v < ps.length
def isP (ps : List Int) : Int → List Int → Prop
  | _, [] => False
  | v, u :: rest => u = v ∧ ok ps v ∧ ((ps.getD v.toNat 0 = -1 ∧ rest = []) ∨ (ps.getD v.toNat 0 ≠ -1 ∧ isP ps (ps.getD v.toNat 0) rest))
theorem isP_go {ps : List Int} : ∀ (l : List Int) (v : Int) (f : Nat) (out : List Int), isP ps v l → l.length ≤ f → path10Go ps f v out = out ++ l
  | [], _, _, _, h, _ => h.elim
  | u :: rest, v, 0, _, _, hl => by simp at hl
  | u :: rest, v, f + 1, out, h, hl => by
    obtain ⟨rfl, h1, h2⟩ := h
    have h3 : ¬ (u < 0 ∨ (ps.length : Int) ≤ u) := by have := h1.1; have := h1.2; omega
    rw [path10Go, if_neg h3]
    rcases h2 with ⟨h4, rfl⟩ | ⟨h4, h5⟩
    · rw [if_pos h4]
    · rw [if_neg h4, isP_go rest _ f (out ++ [u]) h5 (by simpa using hl)]
      simp
theorem go_isP {ps : List Int} : ∀ (f : Nat) (v : Int) (out : List Int), path10Go ps f v out = [] ∨ ∃ l, isP ps v l ∧ l.length ≤ f ∧ path10Go ps f v out = out ++ l
  | 0, v, out => .inl rfl
  | f + 1, v, out => by
    rw [path10Go]
    by_cases h1 : v < 0 ∨ (ps.length : Int) ≤ v
    · rw [if_pos h1]; exact .inl rfl
    · rw [if_neg h1]
      have hok : ok ps v := ⟨by omega, by omega⟩
      by_cases h2 : ps.getD v.toNat 0 = -1
      · rw [if_pos h2]; exact .inr ⟨[v], ⟨rfl, hok, .inl ⟨h2, rfl⟩⟩, by simp, rfl⟩
      · rw [if_neg h2]
        rcases go_isP f (ps.getD v.toNat 0) (out ++ [v]) with h3 | ⟨l, h3, h4, h5⟩
        · exact .inl h3
        · exact .inr ⟨v :: l, ⟨rfl, hok, .inr ⟨h2, h3⟩⟩, by simpa using h4, by rw [h5]; simp⟩
theorem isP_uniq {ps : List Int} : ∀ {l l' : List Int} {v : Int}, isP ps v l → isP ps v l' → l = l'
  | [], _, _, h, _ => h.elim
  | _ :: _, [], _, _, h => h.elim
  | u :: l, u' :: l', v, h, h' => by
    obtain ⟨rfl, _, h2⟩ := h
    obtain ⟨rfl, _, h3⟩ := h'
    rcases h2 with ⟨a, rfl⟩ | ⟨a, b⟩ <;> rcases h3 with ⟨c, rfl⟩ | ⟨c, d⟩
    · rfl
    · exact absurd a c
    · exact absurd c a
    · rw [isP_uniq b d]
theorem isP_tail {ps : List Int} : ∀ {l : List Int} {v y : Int}, isP ps v l → y ∈ l → ∃ l', isP ps y l' ∧ l'.length ≤ l.length
  | [], _, _, h, _ => h.elim
  | u :: l, v, y, h, hy => by
    obtain ⟨rfl, h1, h2⟩ := h
    by_cases e : y = u
    · subst e; exact ⟨y :: l, ⟨rfl, h1, h2⟩, Nat.le_refl _⟩
    · have hy' : y ∈ l := by cases hy with | head => exact absurd rfl e | tail _ h => exact h
      rcases h2 with ⟨_, rfl⟩ | ⟨_, b⟩
      · cases hy'
      · obtain ⟨l', h3, h4⟩ := isP_tail b hy'
        exact ⟨l', h3, by simp; omega⟩
theorem isP_nodup {ps : List Int} : ∀ {l : List Int} {v : Int}, isP ps v l → l.Nodup ∧ ∀ y ∈ l, ok ps y
  | [], _, h => h.elim
  | u :: l, v, h => by
    have h0 := h
    obtain ⟨rfl, h1, h2⟩ := h
    rcases h2 with ⟨_, rfl⟩ | ⟨_, b⟩
    · exact ⟨by simp, fun y hy => by simp at hy; subst hy; exact h1⟩
    · obtain ⟨h3, h4⟩ := isP_nodup b
      refine ⟨List.nodup_cons.2 ⟨fun hm => ?_, h3⟩, fun y hy => ?_⟩
      · obtain ⟨l', h5, h6⟩ := isP_tail b hm
        have := isP_uniq h0 h5
        rw [← this] at h6
        simp at h6
        omega
      · cases hy with
        | head => exact h1
        | tail _ h => exact h4 y h
theorem isP_len {ps : List Int} {l : List Int} {v : Int} (h : isP ps v l) : l.length ≤ ps.length := pigeon _ _ (isP_nodup h).1 (isP_nodup h).2
theorem pathGo_eq (ps : List Int) : ∀ (f : Nat) (v : Int) (out : List Int), pathGo ps f v out = path10Go ps f v out
  | 0, _, _ => rfl
  | f + 1, v, out => by
    rw [pathGo, path10Go]
    by_cases h : 0 ≤ v ∧ v < ps.length
    · rw [if_pos h, pathGo_eq ps f, if_neg (show ¬ (v < 0 ∨ (ps.length : Int) ≤ v) by omega)]
    · rw [if_neg h, if_pos (show v < 0 ∨ (ps.length : Int) ≤ v by omega)]
theorem path_eq {ps : List Int} (h8 : ps.length ≤ 10) (v : Int) : pathL ps v = path10 ps v := by
  rw [pathL, pathGo_eq, path10]
  rcases go_isP (ps := ps) 10 v [] with h | ⟨l, h1, h2, h3⟩
  · rw [h]
    rcases go_isP (ps := ps) ps.length v [] with h' | ⟨l, h1, h2, h3⟩
    · exact h'
    · rw [isP_go l v 10 [] h1 (by omega)] at h
      simp at h; subst h; exact h1.elim
  · rw [h3, isP_go l v _ [] h1 (isP_len h1)]
theorem path_nodup (ps : List Int) (v : Int) : (path10 ps v).Nodup := by
  rcases go_isP (ps := ps) 10 v [] with h | ⟨l, h1, h2, h3⟩
  · rw [path10, h]; simp
  · rw [path10, h3]; exact (isP_nodup h1).1
theorem innerB_nodup (x v : Int) : ∀ (l : List Int), l.Nodup → innerB x v l = if x ∈ l then [v] else []
  | [], _ => rfl
  | u :: l, h => by
    have ih := innerB_nodup x v l (List.nodup_cons.1 h).2
    have hu := (List.nodup_cons.1 h).1
    simp only [innerB, List.filter_cons] at ih ⊢
    by_cases e : u = x
    · subst e
      simp only [decide_true, if_true, List.map_cons, ih, if_neg hu]
      simp
    · simp only [e, decide_false, Bool.false_eq_true, if_false, ih, List.mem_cons]
      simp [Ne.symm e]
theorem below_eq {p : List Int} (h8 : p.length ≤ 10) (x : Int) : belowL p x = belowT p x p.length := by
  have : ∀ n, ints (fun v => decide (x ∈ pathL p v)) n = belowT p x n := by
    intro n
    induction n with
    | zero => rfl
    | succ n ih =>
      rw [ints, belowT, ih, innerB_nodup _ _ _ (path_nodup p n), path_eq h8]
      simp
  exact this _
end Go.Proofs.Ytibgbapeblicjaa
