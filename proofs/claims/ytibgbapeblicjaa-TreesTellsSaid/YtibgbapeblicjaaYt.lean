/- THE STATEMENT: TreesTells returns true for every input, and each argument reads afterwards as it read before. -/
import Derived.Test.YtibgbapeblicjaaXn
import Derived.Test.YtibgbapeblicjaaWo
set_option linter.unusedVariables false
namespace Go.Proofs.Ytibgbapeblicjaa
open Go
set_option maxRecDepth 100000
theorem rd_ints {B : BR} {f : Nat} {cs : List Value} (h : Rd PP B f 22 cs) : ∃ (v : Value) (xs : List Int), cs = [v] ∧ Sl elInt B v xs ∧ xs.length ≤ maxLen ∧ ∀ x ∈ xs, okI x :=
  h.slice sl_22 elInt (by kernel_rfl) okI fun f' cs' _ h' => by
    obtain ⟨n, rfl, hw⟩ := Rd.int und_3 h'
    have e1 : IntKind.i64.min = -9223372036854775808 := by decide
    have e2 : IntKind.i64.max = 9223372036854775807 := by decide
    simp only [Lit.wf, Bool.and_eq_true, decide_eq_true_eq, e1, e2] at hw
    exact ⟨n, rfl, hw.1, hw.2⟩
theorem arg_int {B : BR} {v : Value} (h : Arg PP B 3 v) : ∃ n, v = vi n ∧ okI n := by
  obtain ⟨f, hf⟩ := h.rd
  obtain ⟨n, hc, hw⟩ := hf.int und_3
  have e1 : IntKind.i64.min = -9223372036854775808 := by decide
  have e2 : IntKind.i64.max = 9223372036854775807 := by decide
  simp only [Lit.wf, Bool.and_eq_true, decide_eq_true_eq, e1, e2] at hw
  exact ⟨n, h.one (by kernel_rfl) _ hc, hw.1, hw.2⟩
theorem arg_ints {B : BR} {v : Value} (h : Arg PP B 22 v) : ∃ xs, Sl elInt B v xs ∧ xs.length ≤ maxLen ∧ ∀ x ∈ xs, okI x := by
  obtain ⟨f, hf⟩ := h.rd
  obtain ⟨u, xs, hc, h1, h2, h3⟩ := rd_ints hf
  obtain rfl := h.one (by kernel_rfl) _ hc
  exact ⟨xs, h1, h2, h3⟩
theorem arg_graph {B : BR} {v : Value} (h : Arg PP B 24 v) : ∃ br uv mv us ms, v = kgv br uv mv ∧ Sl elInt B uv us ∧ Sl elInt B mv ms := by
  obtain ⟨f, hf⟩ := h.rd
  obtain ⟨cs, rfl⟩ := h.agg (by kernel_rfl)
  obtain ⟨hl, hs⟩ := hf.struct Try.underlying24
  have hl' : cs.size = 3 := by rw [← Array.length_toList]; exact hl.trans (by kernel_rfl)
  obtain ⟨c0, c1, c2, rfl⟩ : ∃ a b c, cs = #[a, b, c] := ⟨cs[0], cs[1], cs[2], by apply Array.ext; simp [hl']; intro i h1 h2; match i with | 0 => rfl | 1 => rfl | 2 => rfl | i + 3 => omega⟩
  obtain ⟨f0, h0⟩ := hs 0 _ rfl
  obtain ⟨f1, h1⟩ := hs 1 _ rfl
  obtain ⟨f2, h2⟩ := hs 2 _ rfl
  obtain ⟨n, e0, _⟩ := Rd.int und_3 h0
  obtain ⟨uv, us, e1, hu, _, _⟩ := rd_ints h1
  obtain ⟨mv, ms, e2, hm, _, _⟩ := rd_ints h2
  have q0 : [c0] = [vi n] := e0
  have q1 : [c1] = [uv] := e1
  have q2 : [c2] = [mv] := e2
  cases q0; cases q1; cases q2
  exact ⟨n, _, _, us, ms, rfl, hu, hm⟩
theorem TreesTells_call (W : World) (vs : List Value) (h : Args PP (Im (immOf W)) Try.f3.params.toList vs) : CallA PP 3 vs (immOf W) none' (fun v _ _ => v = .bool true) := by
  obtain ⟨hl, hv⟩ := h
  match vs, hl with
  | [a, b, c], _ =>
    obtain ⟨br, uv, mv, us, ms, rfl, hu, hm⟩ := arg_graph (hv 0 _ _ rfl rfl)
    obtain ⟨ps, hp, _, _⟩ := arg_ints (hv 1 _ _ rfl rfl)
    obtain ⟨n, rfl, _⟩ := arg_int (hv 2 _ _ rfl rfl)
    exact Tells_true br n _ _ (hu.mono (Im_Bk _ _)) (hm.mono (Im_Bk _ _)) (hp.mono (Im_Bk _ _))
end Go.Proofs.Ytibgbapeblicjaa
namespace Go.Proofs.Ytibgbapeblicjaa.treesTells
open Go Go.ChangeShapes Go.WideShapes Go.ChangeAt Go.RowKit
set_option maxRecDepth 100000
theorem own : ownKnob Try.prog.godebug = none := by kernel_rfl
theorem lifted (os : Os) (started : os.Started) (H : Type) (enc : TypeId × Value → H) :
    ReturnsInHanded {} Try.checked os 3 .any (Rows.treesTellsSpec.pre6 enc Try.prog Try.f3 Rows.treesTellsRow.domain false) (Rows.treesTellsSpec.post enc Try.prog Try.f3 false true false false) :=
  returnsInHanded_of_change (C := Try.checked) own started (by kernel_rfl) Try.func3
    (ChangeSpec.witness6 (enc := enc) (C := Try.checked) false ⟨#[], #[.agg #[.int .i64 0, .slice none 0 0, .slice none 0 0], .slice none 0 0, .int .i64 0], []⟩ 20 (by kernel_rfl) (by kernel_rfl) (by kernel_rfl) (by kernel_rfl))
    fun W base args ds gs before hval hW _ _ => law_calls (P := Try.prog) (tb := 4) (by kernel_rfl) (by kernel_rfl) (by kernel_rfl) Try.func3 (by kernel_rfl) (by kernel_rfl) rfl rfl Try.underlying4
      (fun ds h => by match ds, h with | [_, _, _], _ => rfl) TreesTells_call W base args ds gs before hval hW
theorem over : Rows.treesTellsRow.holds Try.pinned (OpenSpec.ofChange Rows.treesTellsSpec) :=
  OpenClaim.holds_of_wide 3 Try.f3 rfl rfl rfl rfl rfl rfl rfl ⟨rfl, rfl, rfl, rfl, rfl⟩ rfl rfl rfl rfl rfl (by kernel_rfl) Try.func3 (by kernel_rfl)
    (of_decide_eq_true (by kernel_rfl)) (by unfold Func.isWrapper; first | (rw [if_pos (by decide +kernel)]; kernel_rfl) | (rw [if_neg (by decide +kernel)]; exact ⟨rfl, rfl⟩))
    (fun os started H enc _ => lifted os started H enc)
end Go.Proofs.Ytibgbapeblicjaa.treesTells
namespace Go.Proofs.Ytibgbapeblicjaa
theorem TreesTells_holds : Rows.TreesTellsSaid := treesTells.over
end Go.Proofs.Ytibgbapeblicjaa
#print axioms Go.Proofs.Ytibgbapeblicjaa.TreesTells_holds
