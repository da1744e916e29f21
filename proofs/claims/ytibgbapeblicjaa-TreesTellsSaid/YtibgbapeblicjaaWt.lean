/- Facts on the program's types, each closed. -/
import Derived.Test.YtibgbapeblicjaaWe
import Derived.Test.YtibgbapeblicjaaWj
set_option linter.unusedVariables false
namespace Go.Proofs.Ytibgbapeblicjaa
open Go
set_option maxRecDepth 100000
theorem ty_3 : TyI PP 3 false 1 := TyI.mk' (by kernel_rfl) (by kernel_rfl)
theorem zero_3 : ZeroIs PP 3 (.int .i64 0) := ZeroIs.mk' (by kernel_rfl)
theorem und_3 : PP.underlying 3 = some (.int .i64) := by kernel_rfl
theorem ty_22 : TyI PP 22 false 1 := TyI.mk' (by kernel_rfl) (by kernel_rfl)
theorem sl_22 : PP.underlying 22 = some (.slice 3) := by kernel_rfl
theorem zero_22 : ZeroIs PP 22 (.slice none 0 0) := ZeroIs.mk' (by kernel_rfl)
theorem row_22 : RowTy PP 22 3 1 8 ((PP.info? 3).get (by kernel_rfl)) (.int .i64 0) := RowTy.mk' (by kernel_rfl) sl_22 (by kernel_rfl) rfl (by decide)
theorem ty_24 : TyI PP 24 true 3 := TyI.mk' (by kernel_rfl) (by kernel_rfl)
theorem zero_24 : ZeroIs PP 24 (.agg #[.int .i64 0, .slice none 0 0, .slice none 0 0]) := ZeroIs.mk' (by kernel_rfl)
theorem fld_24_0 (b o : Nat) (w : World) : (Instr.fieldAt 24 (ptr b o) 0).run PP w = .ok (ptr b (o + 0)) w := run_field Try.underlying24 (fl := (match PP.underlying 24 with | some (.struct fs) => fs.getD 0 default | _ => default)) (by kernel_rfl) ty_3 (by decide) b o w
theorem fld_24_1 (b o : Nat) (w : World) : (Instr.fieldAt 24 (ptr b o) 1).run PP w = .ok (ptr b (o + 1)) w := run_field Try.underlying24 (fl := (match PP.underlying 24 with | some (.struct fs) => fs.getD 1 default | _ => default)) (by kernel_rfl) ty_22 (by decide) b o w
theorem fld_24_2 (b o : Nat) (w : World) : (Instr.fieldAt 24 (ptr b o) 2).run PP w = .ok (ptr b (o + 2)) w := run_field Try.underlying24 (fl := (match PP.underlying 24 with | some (.struct fs) => fs.getD 2 default | _ => default)) (by kernel_rfl) ty_22 (by decide) b o w
theorem ty_60 : TyI PP 60 false 1 := TyI.mk' (by kernel_rfl) (by kernel_rfl)
theorem zero_60 : ZeroIs PP 60 (.map none) := ZeroIs.mk' (by kernel_rfl)
theorem map_60 : PP.underlying 60 = some (.map 61 4) := by kernel_rfl
theorem ty_41 : TyI PP 41 false 1 := TyI.mk' (by kernel_rfl) (by kernel_rfl)
theorem zero_41 : ZeroIs PP 41 (.map none) := ZeroIs.mk' (by kernel_rfl)
theorem map_41 : PP.underlying 41 = some (.map 43 4) := by kernel_rfl
theorem ty_5 : TyI PP 5 false 1 := TyI.mk' (by kernel_rfl) (by kernel_rfl)
theorem zero_5 : ZeroIs PP 5 (.int .u8 0) := ZeroIs.mk' (by kernel_rfl)
theorem und_5 : PP.underlying 5 = some (.int .u8) := by kernel_rfl
theorem ty_142 : TyI PP 142 false 1 := TyI.mk' (by kernel_rfl) (by kernel_rfl)
theorem zero_142 : ZeroIs PP 142 (.int .u64 0) := ZeroIs.mk' (by kernel_rfl)
theorem und_142 : PP.underlying 142 = some (.int .u64) := by kernel_rfl
theorem ty_111 : TyI PP 111 false 1 := TyI.mk' (by kernel_rfl) (by kernel_rfl)
theorem zero_111 : ZeroIs PP 111 (.int .u64 0) := ZeroIs.mk' (by kernel_rfl)
theorem und_111 : PP.underlying 111 = some (.int .u64) := by kernel_rfl
theorem ty_61 : TyI PP 61 true 2 := TyI.mk' (by kernel_rfl) (by kernel_rfl)
theorem zero_61 : ZeroIs PP 61 (.agg #[.int .i64 0, .int .i64 0]) := ZeroIs.mk' (by kernel_rfl)
theorem arr_61 : PP.underlying 61 = some (.array 2 3) := by kernel_rfl
theorem ty_25 : TyI PP 25 false 1 := TyI.mk' (by kernel_rfl) (by kernel_rfl)
theorem sl_25 : PP.underlying 25 = some (.slice 61) := by kernel_rfl
theorem zero_25 : ZeroIs PP 25 (.slice none 0 0) := ZeroIs.mk' (by kernel_rfl)
theorem row_25 : RowTy PP 25 61 2 16 ((PP.info? 61).get (by kernel_rfl)) (.agg #[.int .i64 0, .int .i64 0]) := RowTy.mk' (by kernel_rfl) sl_25 (by kernel_rfl) rfl (by decide)
theorem ty_27 : TyI PP 27 true 2 := TyI.mk' (by kernel_rfl) (by kernel_rfl)
theorem zero_27 : ZeroIs PP 27 (.agg #[.int .i64 0, .slice none 0 0]) := ZeroIs.mk' (by kernel_rfl)
theorem fld_27_0 (b o : Nat) (w : World) : (Instr.fieldAt 27 (ptr b o) 0).run PP w = .ok (ptr b (o + 0)) w := run_field Try.underlying27 (fl := (match PP.underlying 27 with | some (.struct fs) => fs.getD 0 default | _ => default)) (by kernel_rfl) ty_3 (by decide) b o w
theorem fld_27_1 (b o : Nat) (w : World) : (Instr.fieldAt 27 (ptr b o) 1).run PP w = .ok (ptr b (o + 1)) w := run_field Try.underlying27 (fl := (match PP.underlying 27 with | some (.struct fs) => fs.getD 1 default | _ => default)) (by kernel_rfl) ty_25 (by decide) b o w
theorem ty_4 : TyI PP 4 false 1 := TyI.mk' (by kernel_rfl) (by kernel_rfl)
theorem zero_4 : ZeroIs PP 4 (.bool false) := ZeroIs.mk' (by kernel_rfl)
theorem ty_9 : TyI PP 9 false 1 := TyI.mk' (by kernel_rfl) (by kernel_rfl)
theorem zero_9 : ZeroIs PP 9 (.string ⟨#[]⟩) := ZeroIs.mk' (by kernel_rfl)
theorem str_9 : PP.underlying 9 = some .string := by kernel_rfl
theorem ty_43 : TyI PP 43 true 2 := TyI.mk' (by kernel_rfl) (by kernel_rfl)
theorem zero_43 : ZeroIs PP 43 (.agg #[.int .i64 0, .int .i64 0]) := ZeroIs.mk' (by kernel_rfl)
theorem fld_43_0 (b o : Nat) (w : World) : (Instr.fieldAt 43 (ptr b o) 0).run PP w = .ok (ptr b (o + 0)) w := run_field Try.underlying43 (fl := (match PP.underlying 43 with | some (.struct fs) => fs.getD 0 default | _ => default)) (by kernel_rfl) ty_3 (by decide) b o w
theorem fld_43_1 (b o : Nat) (w : World) : (Instr.fieldAt 43 (ptr b o) 1).run PP w = .ok (ptr b (o + 1)) w := run_field Try.underlying43 (fl := (match PP.underlying 43 with | some (.struct fs) => fs.getD 1 default | _ => default)) (by kernel_rfl) ty_3 (by decide) b o w
theorem ty_48 : TyI PP 48 false 1 := TyI.mk' (by kernel_rfl) (by kernel_rfl)
theorem sl_48 : PP.underlying 48 = some (.slice 43) := by kernel_rfl
theorem zero_48 : ZeroIs PP 48 (.slice none 0 0) := ZeroIs.mk' (by kernel_rfl)
theorem row_48 : RowTy PP 48 43 2 16 ((PP.info? 43).get (by kernel_rfl)) (.agg #[.int .i64 0, .int .i64 0]) := RowTy.mk' (by kernel_rfl) sl_48 (by kernel_rfl) rfl (by decide)
theorem ty_68 : TyI PP 68 true 5 := TyI.mk' (by kernel_rfl) (by kernel_rfl)
theorem zero_68 : ZeroIs PP 68 (.agg #[.string ⟨#[]⟩, .int .i64 0, .int .i64 0, .int .i64 0, .string ⟨#[]⟩]) := ZeroIs.mk' (by kernel_rfl)
theorem fld_68_0 (b o : Nat) (w : World) : (Instr.fieldAt 68 (ptr b o) 0).run PP w = .ok (ptr b (o + 0)) w := run_field Try.underlying68 (fl := (match PP.underlying 68 with | some (.struct fs) => fs.getD 0 default | _ => default)) (by kernel_rfl) ty_9 (by decide) b o w
theorem fld_68_1 (b o : Nat) (w : World) : (Instr.fieldAt 68 (ptr b o) 1).run PP w = .ok (ptr b (o + 1)) w := run_field Try.underlying68 (fl := (match PP.underlying 68 with | some (.struct fs) => fs.getD 1 default | _ => default)) (by kernel_rfl) ty_3 (by decide) b o w
theorem fld_68_2 (b o : Nat) (w : World) : (Instr.fieldAt 68 (ptr b o) 2).run PP w = .ok (ptr b (o + 2)) w := run_field Try.underlying68 (fl := (match PP.underlying 68 with | some (.struct fs) => fs.getD 2 default | _ => default)) (by kernel_rfl) ty_3 (by decide) b o w
theorem fld_68_3 (b o : Nat) (w : World) : (Instr.fieldAt 68 (ptr b o) 3).run PP w = .ok (ptr b (o + 3)) w := run_field Try.underlying68 (fl := (match PP.underlying 68 with | some (.struct fs) => fs.getD 3 default | _ => default)) (by kernel_rfl) ty_3 (by decide) b o w
theorem fld_68_4 (b o : Nat) (w : World) : (Instr.fieldAt 68 (ptr b o) 4).run PP w = .ok (ptr b (o + 4)) w := run_field Try.underlying68 (fl := (match PP.underlying 68 with | some (.struct fs) => fs.getD 4 default | _ => default)) (by kernel_rfl) ty_9 (by decide) b o w
theorem ty_44 : TyI PP 44 false 1 := TyI.mk' (by kernel_rfl) (by kernel_rfl)
theorem sl_44 : PP.underlying 44 = some (.slice 68) := by kernel_rfl
theorem zero_44 : ZeroIs PP 44 (.slice none 0 0) := ZeroIs.mk' (by kernel_rfl)
theorem row_44 : RowTy PP 44 68 5 56 ((PP.info? 68).get (by kernel_rfl)) (.agg #[.string ⟨#[]⟩, .int .i64 0, .int .i64 0, .int .i64 0, .string ⟨#[]⟩]) := RowTy.mk' (by kernel_rfl) sl_44 (by kernel_rfl) rfl (by decide)
theorem ty_47 : TyI PP 47 true 4 := TyI.mk' (by kernel_rfl) (by kernel_rfl)
theorem zero_47 : ZeroIs PP 47 (.agg #[.int .i64 0, .int .i64 0, .slice none 0 0, .int .i64 0]) := ZeroIs.mk' (by kernel_rfl)
theorem fld_47_0 (b o : Nat) (w : World) : (Instr.fieldAt 47 (ptr b o) 0).run PP w = .ok (ptr b (o + 0)) w := run_field Try.underlying47 (fl := (match PP.underlying 47 with | some (.struct fs) => fs.getD 0 default | _ => default)) (by kernel_rfl) ty_43 (by decide) b o w
theorem fld_47_1 (b o : Nat) (w : World) : (Instr.fieldAt 47 (ptr b o) 1).run PP w = .ok (ptr b (o + 2)) w := run_field Try.underlying47 (fl := (match PP.underlying 47 with | some (.struct fs) => fs.getD 1 default | _ => default)) (by kernel_rfl) ty_44 (by decide) b o w
theorem fld_47_2 (b o : Nat) (w : World) : (Instr.fieldAt 47 (ptr b o) 2).run PP w = .ok (ptr b (o + 3)) w := run_field Try.underlying47 (fl := (match PP.underlying 47 with | some (.struct fs) => fs.getD 2 default | _ => default)) (by kernel_rfl) ty_3 (by decide) b o w
theorem ty_40 : TyI PP 40 false 1 := TyI.mk' (by kernel_rfl) (by kernel_rfl)
theorem sl_40 : PP.underlying 40 = some (.slice 47) := by kernel_rfl
theorem zero_40 : ZeroIs PP 40 (.slice none 0 0) := ZeroIs.mk' (by kernel_rfl)
theorem row_40 : RowTy PP 40 47 4 48 ((PP.info? 47).get (by kernel_rfl)) (.agg #[.int .i64 0, .int .i64 0, .slice none 0 0, .int .i64 0]) := RowTy.mk' (by kernel_rfl) sl_40 (by kernel_rfl) rfl (by decide)
theorem ty_84 : TyI PP 84 true 7 := TyI.mk' (by kernel_rfl) (by kernel_rfl)
theorem zero_84 : ZeroIs PP 84 (.agg #[.int .i64 0, .int .i64 0, .int .i64 0, .int .i64 0, .slice none 0 0, .int .i64 0, .bool false]) := ZeroIs.mk' (by kernel_rfl)
theorem fld_84_0 (b o : Nat) (w : World) : (Instr.fieldAt 84 (ptr b o) 0).run PP w = .ok (ptr b (o + 0)) w := run_field Try.underlying84 (fl := (match PP.underlying 84 with | some (.struct fs) => fs.getD 0 default | _ => default)) (by kernel_rfl) ty_43 (by decide) b o w
theorem fld_84_1 (b o : Nat) (w : World) : (Instr.fieldAt 84 (ptr b o) 1).run PP w = .ok (ptr b (o + 2)) w := run_field Try.underlying84 (fl := (match PP.underlying 84 with | some (.struct fs) => fs.getD 1 default | _ => default)) (by kernel_rfl) ty_43 (by decide) b o w
theorem fld_84_2 (b o : Nat) (w : World) : (Instr.fieldAt 84 (ptr b o) 2).run PP w = .ok (ptr b (o + 4)) w := run_field Try.underlying84 (fl := (match PP.underlying 84 with | some (.struct fs) => fs.getD 2 default | _ => default)) (by kernel_rfl) ty_44 (by decide) b o w
theorem fld_84_3 (b o : Nat) (w : World) : (Instr.fieldAt 84 (ptr b o) 3).run PP w = .ok (ptr b (o + 5)) w := run_field Try.underlying84 (fl := (match PP.underlying 84 with | some (.struct fs) => fs.getD 3 default | _ => default)) (by kernel_rfl) ty_3 (by decide) b o w
theorem fld_84_4 (b o : Nat) (w : World) : (Instr.fieldAt 84 (ptr b o) 4).run PP w = .ok (ptr b (o + 6)) w := run_field Try.underlying84 (fl := (match PP.underlying 84 with | some (.struct fs) => fs.getD 4 default | _ => default)) (by kernel_rfl) ty_4 (by decide) b o w
theorem ty_49 : TyI PP 49 false 1 := TyI.mk' (by kernel_rfl) (by kernel_rfl)
theorem sl_49 : PP.underlying 49 = some (.slice 84) := by kernel_rfl
theorem zero_49 : ZeroIs PP 49 (.slice none 0 0) := ZeroIs.mk' (by kernel_rfl)
theorem row_49 : RowTy PP 49 84 7 72 ((PP.info? 84).get (by kernel_rfl)) (.agg #[.int .i64 0, .int .i64 0, .int .i64 0, .int .i64 0, .slice none 0 0, .int .i64 0, .bool false]) := RowTy.mk' (by kernel_rfl) sl_49 (by kernel_rfl) rfl (by decide)
theorem ty_88 : TyI PP 88 true 3 := TyI.mk' (by kernel_rfl) (by kernel_rfl)
theorem zero_88 : ZeroIs PP 88 (.agg #[.int .i64 0, .int .i64 0, .slice none 0 0]) := ZeroIs.mk' (by kernel_rfl)
theorem fld_88_0 (b o : Nat) (w : World) : (Instr.fieldAt 88 (ptr b o) 0).run PP w = .ok (ptr b (o + 0)) w := run_field Try.underlying88 (fl := (match PP.underlying 88 with | some (.struct fs) => fs.getD 0 default | _ => default)) (by kernel_rfl) ty_43 (by decide) b o w
theorem fld_88_1 (b o : Nat) (w : World) : (Instr.fieldAt 88 (ptr b o) 1).run PP w = .ok (ptr b (o + 2)) w := run_field Try.underlying88 (fl := (match PP.underlying 88 with | some (.struct fs) => fs.getD 1 default | _ => default)) (by kernel_rfl) ty_44 (by decide) b o w
theorem ty_50 : TyI PP 50 false 1 := TyI.mk' (by kernel_rfl) (by kernel_rfl)
theorem sl_50 : PP.underlying 50 = some (.slice 88) := by kernel_rfl
theorem zero_50 : ZeroIs PP 50 (.slice none 0 0) := ZeroIs.mk' (by kernel_rfl)
theorem row_50 : RowTy PP 50 88 3 40 ((PP.info? 88).get (by kernel_rfl)) (.agg #[.int .i64 0, .int .i64 0, .slice none 0 0]) := RowTy.mk' (by kernel_rfl) sl_50 (by kernel_rfl) rfl (by decide)
theorem ty_52 : TyI PP 52 true 6 := TyI.mk' (by kernel_rfl) (by kernel_rfl)
theorem zero_52 : ZeroIs PP 52 (.agg #[.int .i64 0, .slice none 0 0, .slice none 0 0, .slice none 0 0, .slice none 0 0, .slice none 0 0]) := ZeroIs.mk' (by kernel_rfl)
theorem fld_52_0 (b o : Nat) (w : World) : (Instr.fieldAt 52 (ptr b o) 0).run PP w = .ok (ptr b (o + 0)) w := run_field Try.underlying52 (fl := (match PP.underlying 52 with | some (.struct fs) => fs.getD 0 default | _ => default)) (by kernel_rfl) ty_3 (by decide) b o w
theorem fld_52_1 (b o : Nat) (w : World) : (Instr.fieldAt 52 (ptr b o) 1).run PP w = .ok (ptr b (o + 1)) w := run_field Try.underlying52 (fl := (match PP.underlying 52 with | some (.struct fs) => fs.getD 1 default | _ => default)) (by kernel_rfl) ty_22 (by decide) b o w
theorem fld_52_2 (b o : Nat) (w : World) : (Instr.fieldAt 52 (ptr b o) 2).run PP w = .ok (ptr b (o + 2)) w := run_field Try.underlying52 (fl := (match PP.underlying 52 with | some (.struct fs) => fs.getD 2 default | _ => default)) (by kernel_rfl) ty_40 (by decide) b o w
theorem fld_52_3 (b o : Nat) (w : World) : (Instr.fieldAt 52 (ptr b o) 3).run PP w = .ok (ptr b (o + 3)) w := run_field Try.underlying52 (fl := (match PP.underlying 52 with | some (.struct fs) => fs.getD 3 default | _ => default)) (by kernel_rfl) ty_48 (by decide) b o w
theorem fld_52_4 (b o : Nat) (w : World) : (Instr.fieldAt 52 (ptr b o) 4).run PP w = .ok (ptr b (o + 4)) w := run_field Try.underlying52 (fl := (match PP.underlying 52 with | some (.struct fs) => fs.getD 4 default | _ => default)) (by kernel_rfl) ty_49 (by decide) b o w
theorem fld_52_5 (b o : Nat) (w : World) : (Instr.fieldAt 52 (ptr b o) 5).run PP w = .ok (ptr b (o + 5)) w := run_field Try.underlying52 (fl := (match PP.underlying 52 with | some (.struct fs) => fs.getD 5 default | _ => default)) (by kernel_rfl) ty_50 (by decide) b o w
end Go.Proofs.Ytibgbapeblicjaa
