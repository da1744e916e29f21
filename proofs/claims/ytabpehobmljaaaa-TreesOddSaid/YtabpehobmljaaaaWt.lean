/- Facts on the program's types, each closed. -/
import Derived.Test.YtabpehobmljaaaaWe
import Derived.Test.YtabpehobmljaaaaWj
set_option linter.unusedVariables false
namespace Go.Proofs.Ytabpehobmljaaaa
open Go
set_option maxRecDepth 100000
theorem ty_3 : TyI PP 3 false 1 := TyI.mk' (by kernel_rfl) (by kernel_rfl)
theorem zero_3 : ZeroIs PP 3 (.int .i64 0) := ZeroIs.mk' (by kernel_rfl)
theorem und_3 : PP.underlying 3 = some (.int .i64) := by kernel_rfl
theorem ty_5 : TyI PP 5 false 1 := TyI.mk' (by kernel_rfl) (by kernel_rfl)
theorem zero_5 : ZeroIs PP 5 (.int .u8 0) := ZeroIs.mk' (by kernel_rfl)
theorem und_5 : PP.underlying 5 = some (.int .u8) := by kernel_rfl
theorem ty_144 : TyI PP 144 false 1 := TyI.mk' (by kernel_rfl) (by kernel_rfl)
theorem zero_144 : ZeroIs PP 144 (.int .u64 0) := ZeroIs.mk' (by kernel_rfl)
theorem und_144 : PP.underlying 144 = some (.int .u64) := by kernel_rfl
theorem ty_113 : TyI PP 113 false 1 := TyI.mk' (by kernel_rfl) (by kernel_rfl)
theorem zero_113 : ZeroIs PP 113 (.int .u64 0) := ZeroIs.mk' (by kernel_rfl)
theorem und_113 : PP.underlying 113 = some (.int .u64) := by kernel_rfl
theorem ty_38 : TyI PP 38 true 2 := TyI.mk' (by kernel_rfl) (by kernel_rfl)
theorem zero_38 : ZeroIs PP 38 (.agg #[.int .i64 0, .int .i64 0]) := ZeroIs.mk' (by kernel_rfl)
theorem arr_38 : PP.underlying 38 = some (.array 2 3) := by kernel_rfl
theorem ty_25 : TyI PP 25 false 1 := TyI.mk' (by kernel_rfl) (by kernel_rfl)
theorem sl_25 : PP.underlying 25 = some (.slice 38) := by kernel_rfl
theorem zero_25 : ZeroIs PP 25 (.slice none 0 0) := ZeroIs.mk' (by kernel_rfl)
theorem row_25 : RowTy PP 25 38 2 16 ((PP.info? 38).get (by kernel_rfl)) (.agg #[.int .i64 0, .int .i64 0]) := RowTy.mk' (by kernel_rfl) sl_25 (by kernel_rfl) rfl (by decide)
theorem ty_27 : TyI PP 27 true 2 := TyI.mk' (by kernel_rfl) (by kernel_rfl)
theorem zero_27 : ZeroIs PP 27 (.agg #[.int .i64 0, .slice none 0 0]) := ZeroIs.mk' (by kernel_rfl)
theorem fld_27_0 (b o : Nat) (w : World) : (Instr.fieldAt 27 (ptr b o) 0).run PP w = .ok (ptr b (o + 0)) w := run_field Try.underlying27 (fl := (match PP.underlying 27 with | some (.struct fs) => fs.getD 0 default | _ => default)) (by kernel_rfl) ty_3 (by decide) b o w
theorem fld_27_1 (b o : Nat) (w : World) : (Instr.fieldAt 27 (ptr b o) 1).run PP w = .ok (ptr b (o + 1)) w := run_field Try.underlying27 (fl := (match PP.underlying 27 with | some (.struct fs) => fs.getD 1 default | _ => default)) (by kernel_rfl) ty_25 (by decide) b o w
theorem ty_4 : TyI PP 4 false 1 := TyI.mk' (by kernel_rfl) (by kernel_rfl)
theorem zero_4 : ZeroIs PP 4 (.bool false) := ZeroIs.mk' (by kernel_rfl)
theorem ty_9 : TyI PP 9 false 1 := TyI.mk' (by kernel_rfl) (by kernel_rfl)
theorem zero_9 : ZeroIs PP 9 (.string ⟨#[]⟩) := ZeroIs.mk' (by kernel_rfl)
theorem str_9 : PP.underlying 9 = some .string := by kernel_rfl
theorem ty_22 : TyI PP 22 false 1 := TyI.mk' (by kernel_rfl) (by kernel_rfl)
theorem sl_22 : PP.underlying 22 = some (.slice 3) := by kernel_rfl
theorem zero_22 : ZeroIs PP 22 (.slice none 0 0) := ZeroIs.mk' (by kernel_rfl)
theorem row_22 : RowTy PP 22 3 1 8 ((PP.info? 3).get (by kernel_rfl)) (.int .i64 0) := RowTy.mk' (by kernel_rfl) sl_22 (by kernel_rfl) rfl (by decide)
theorem ty_46 : TyI PP 46 true 2 := TyI.mk' (by kernel_rfl) (by kernel_rfl)
theorem zero_46 : ZeroIs PP 46 (.agg #[.int .i64 0, .int .i64 0]) := ZeroIs.mk' (by kernel_rfl)
theorem fld_46_0 (b o : Nat) (w : World) : (Instr.fieldAt 46 (ptr b o) 0).run PP w = .ok (ptr b (o + 0)) w := run_field Try.underlying46 (fl := (match PP.underlying 46 with | some (.struct fs) => fs.getD 0 default | _ => default)) (by kernel_rfl) ty_3 (by decide) b o w
theorem fld_46_1 (b o : Nat) (w : World) : (Instr.fieldAt 46 (ptr b o) 1).run PP w = .ok (ptr b (o + 1)) w := run_field Try.underlying46 (fl := (match PP.underlying 46 with | some (.struct fs) => fs.getD 1 default | _ => default)) (by kernel_rfl) ty_3 (by decide) b o w
theorem ty_51 : TyI PP 51 false 1 := TyI.mk' (by kernel_rfl) (by kernel_rfl)
theorem sl_51 : PP.underlying 51 = some (.slice 46) := by kernel_rfl
theorem zero_51 : ZeroIs PP 51 (.slice none 0 0) := ZeroIs.mk' (by kernel_rfl)
theorem row_51 : RowTy PP 51 46 2 16 ((PP.info? 46).get (by kernel_rfl)) (.agg #[.int .i64 0, .int .i64 0]) := RowTy.mk' (by kernel_rfl) sl_51 (by kernel_rfl) rfl (by decide)
theorem ty_70 : TyI PP 70 true 5 := TyI.mk' (by kernel_rfl) (by kernel_rfl)
theorem zero_70 : ZeroIs PP 70 (.agg #[.string ⟨#[]⟩, .int .i64 0, .int .i64 0, .int .i64 0, .string ⟨#[]⟩]) := ZeroIs.mk' (by kernel_rfl)
theorem fld_70_0 (b o : Nat) (w : World) : (Instr.fieldAt 70 (ptr b o) 0).run PP w = .ok (ptr b (o + 0)) w := run_field Try.underlying70 (fl := (match PP.underlying 70 with | some (.struct fs) => fs.getD 0 default | _ => default)) (by kernel_rfl) ty_9 (by decide) b o w
theorem fld_70_1 (b o : Nat) (w : World) : (Instr.fieldAt 70 (ptr b o) 1).run PP w = .ok (ptr b (o + 1)) w := run_field Try.underlying70 (fl := (match PP.underlying 70 with | some (.struct fs) => fs.getD 1 default | _ => default)) (by kernel_rfl) ty_3 (by decide) b o w
theorem fld_70_2 (b o : Nat) (w : World) : (Instr.fieldAt 70 (ptr b o) 2).run PP w = .ok (ptr b (o + 2)) w := run_field Try.underlying70 (fl := (match PP.underlying 70 with | some (.struct fs) => fs.getD 2 default | _ => default)) (by kernel_rfl) ty_3 (by decide) b o w
theorem fld_70_3 (b o : Nat) (w : World) : (Instr.fieldAt 70 (ptr b o) 3).run PP w = .ok (ptr b (o + 3)) w := run_field Try.underlying70 (fl := (match PP.underlying 70 with | some (.struct fs) => fs.getD 3 default | _ => default)) (by kernel_rfl) ty_3 (by decide) b o w
theorem fld_70_4 (b o : Nat) (w : World) : (Instr.fieldAt 70 (ptr b o) 4).run PP w = .ok (ptr b (o + 4)) w := run_field Try.underlying70 (fl := (match PP.underlying 70 with | some (.struct fs) => fs.getD 4 default | _ => default)) (by kernel_rfl) ty_9 (by decide) b o w
theorem ty_47 : TyI PP 47 false 1 := TyI.mk' (by kernel_rfl) (by kernel_rfl)
theorem sl_47 : PP.underlying 47 = some (.slice 70) := by kernel_rfl
theorem zero_47 : ZeroIs PP 47 (.slice none 0 0) := ZeroIs.mk' (by kernel_rfl)
theorem row_47 : RowTy PP 47 70 5 56 ((PP.info? 70).get (by kernel_rfl)) (.agg #[.string ⟨#[]⟩, .int .i64 0, .int .i64 0, .int .i64 0, .string ⟨#[]⟩]) := RowTy.mk' (by kernel_rfl) sl_47 (by kernel_rfl) rfl (by decide)
theorem ty_50 : TyI PP 50 true 4 := TyI.mk' (by kernel_rfl) (by kernel_rfl)
theorem zero_50 : ZeroIs PP 50 (.agg #[.int .i64 0, .int .i64 0, .slice none 0 0, .int .i64 0]) := ZeroIs.mk' (by kernel_rfl)
theorem fld_50_0 (b o : Nat) (w : World) : (Instr.fieldAt 50 (ptr b o) 0).run PP w = .ok (ptr b (o + 0)) w := run_field Try.underlying50 (fl := (match PP.underlying 50 with | some (.struct fs) => fs.getD 0 default | _ => default)) (by kernel_rfl) ty_46 (by decide) b o w
theorem fld_50_1 (b o : Nat) (w : World) : (Instr.fieldAt 50 (ptr b o) 1).run PP w = .ok (ptr b (o + 2)) w := run_field Try.underlying50 (fl := (match PP.underlying 50 with | some (.struct fs) => fs.getD 1 default | _ => default)) (by kernel_rfl) ty_47 (by decide) b o w
theorem fld_50_2 (b o : Nat) (w : World) : (Instr.fieldAt 50 (ptr b o) 2).run PP w = .ok (ptr b (o + 3)) w := run_field Try.underlying50 (fl := (match PP.underlying 50 with | some (.struct fs) => fs.getD 2 default | _ => default)) (by kernel_rfl) ty_3 (by decide) b o w
theorem ty_43 : TyI PP 43 false 1 := TyI.mk' (by kernel_rfl) (by kernel_rfl)
theorem sl_43 : PP.underlying 43 = some (.slice 50) := by kernel_rfl
theorem zero_43 : ZeroIs PP 43 (.slice none 0 0) := ZeroIs.mk' (by kernel_rfl)
theorem row_43 : RowTy PP 43 50 4 48 ((PP.info? 50).get (by kernel_rfl)) (.agg #[.int .i64 0, .int .i64 0, .slice none 0 0, .int .i64 0]) := RowTy.mk' (by kernel_rfl) sl_43 (by kernel_rfl) rfl (by decide)
theorem ty_86 : TyI PP 86 true 7 := TyI.mk' (by kernel_rfl) (by kernel_rfl)
theorem zero_86 : ZeroIs PP 86 (.agg #[.int .i64 0, .int .i64 0, .int .i64 0, .int .i64 0, .slice none 0 0, .int .i64 0, .bool false]) := ZeroIs.mk' (by kernel_rfl)
theorem fld_86_0 (b o : Nat) (w : World) : (Instr.fieldAt 86 (ptr b o) 0).run PP w = .ok (ptr b (o + 0)) w := run_field Try.underlying86 (fl := (match PP.underlying 86 with | some (.struct fs) => fs.getD 0 default | _ => default)) (by kernel_rfl) ty_46 (by decide) b o w
theorem fld_86_1 (b o : Nat) (w : World) : (Instr.fieldAt 86 (ptr b o) 1).run PP w = .ok (ptr b (o + 2)) w := run_field Try.underlying86 (fl := (match PP.underlying 86 with | some (.struct fs) => fs.getD 1 default | _ => default)) (by kernel_rfl) ty_46 (by decide) b o w
theorem fld_86_2 (b o : Nat) (w : World) : (Instr.fieldAt 86 (ptr b o) 2).run PP w = .ok (ptr b (o + 4)) w := run_field Try.underlying86 (fl := (match PP.underlying 86 with | some (.struct fs) => fs.getD 2 default | _ => default)) (by kernel_rfl) ty_47 (by decide) b o w
theorem fld_86_3 (b o : Nat) (w : World) : (Instr.fieldAt 86 (ptr b o) 3).run PP w = .ok (ptr b (o + 5)) w := run_field Try.underlying86 (fl := (match PP.underlying 86 with | some (.struct fs) => fs.getD 3 default | _ => default)) (by kernel_rfl) ty_3 (by decide) b o w
theorem fld_86_4 (b o : Nat) (w : World) : (Instr.fieldAt 86 (ptr b o) 4).run PP w = .ok (ptr b (o + 6)) w := run_field Try.underlying86 (fl := (match PP.underlying 86 with | some (.struct fs) => fs.getD 4 default | _ => default)) (by kernel_rfl) ty_4 (by decide) b o w
theorem ty_52 : TyI PP 52 false 1 := TyI.mk' (by kernel_rfl) (by kernel_rfl)
theorem sl_52 : PP.underlying 52 = some (.slice 86) := by kernel_rfl
theorem zero_52 : ZeroIs PP 52 (.slice none 0 0) := ZeroIs.mk' (by kernel_rfl)
theorem row_52 : RowTy PP 52 86 7 72 ((PP.info? 86).get (by kernel_rfl)) (.agg #[.int .i64 0, .int .i64 0, .int .i64 0, .int .i64 0, .slice none 0 0, .int .i64 0, .bool false]) := RowTy.mk' (by kernel_rfl) sl_52 (by kernel_rfl) rfl (by decide)
theorem ty_90 : TyI PP 90 true 3 := TyI.mk' (by kernel_rfl) (by kernel_rfl)
theorem zero_90 : ZeroIs PP 90 (.agg #[.int .i64 0, .int .i64 0, .slice none 0 0]) := ZeroIs.mk' (by kernel_rfl)
theorem fld_90_0 (b o : Nat) (w : World) : (Instr.fieldAt 90 (ptr b o) 0).run PP w = .ok (ptr b (o + 0)) w := run_field Try.underlying90 (fl := (match PP.underlying 90 with | some (.struct fs) => fs.getD 0 default | _ => default)) (by kernel_rfl) ty_46 (by decide) b o w
theorem fld_90_1 (b o : Nat) (w : World) : (Instr.fieldAt 90 (ptr b o) 1).run PP w = .ok (ptr b (o + 2)) w := run_field Try.underlying90 (fl := (match PP.underlying 90 with | some (.struct fs) => fs.getD 1 default | _ => default)) (by kernel_rfl) ty_47 (by decide) b o w
theorem ty_53 : TyI PP 53 false 1 := TyI.mk' (by kernel_rfl) (by kernel_rfl)
theorem sl_53 : PP.underlying 53 = some (.slice 90) := by kernel_rfl
theorem zero_53 : ZeroIs PP 53 (.slice none 0 0) := ZeroIs.mk' (by kernel_rfl)
theorem row_53 : RowTy PP 53 90 3 40 ((PP.info? 90).get (by kernel_rfl)) (.agg #[.int .i64 0, .int .i64 0, .slice none 0 0]) := RowTy.mk' (by kernel_rfl) sl_53 (by kernel_rfl) rfl (by decide)
theorem ty_55 : TyI PP 55 true 6 := TyI.mk' (by kernel_rfl) (by kernel_rfl)
theorem zero_55 : ZeroIs PP 55 (.agg #[.int .i64 0, .slice none 0 0, .slice none 0 0, .slice none 0 0, .slice none 0 0, .slice none 0 0]) := ZeroIs.mk' (by kernel_rfl)
theorem fld_55_0 (b o : Nat) (w : World) : (Instr.fieldAt 55 (ptr b o) 0).run PP w = .ok (ptr b (o + 0)) w := run_field Try.underlying55 (fl := (match PP.underlying 55 with | some (.struct fs) => fs.getD 0 default | _ => default)) (by kernel_rfl) ty_3 (by decide) b o w
theorem fld_55_1 (b o : Nat) (w : World) : (Instr.fieldAt 55 (ptr b o) 1).run PP w = .ok (ptr b (o + 1)) w := run_field Try.underlying55 (fl := (match PP.underlying 55 with | some (.struct fs) => fs.getD 1 default | _ => default)) (by kernel_rfl) ty_22 (by decide) b o w
theorem fld_55_2 (b o : Nat) (w : World) : (Instr.fieldAt 55 (ptr b o) 2).run PP w = .ok (ptr b (o + 2)) w := run_field Try.underlying55 (fl := (match PP.underlying 55 with | some (.struct fs) => fs.getD 2 default | _ => default)) (by kernel_rfl) ty_43 (by decide) b o w
theorem fld_55_3 (b o : Nat) (w : World) : (Instr.fieldAt 55 (ptr b o) 3).run PP w = .ok (ptr b (o + 3)) w := run_field Try.underlying55 (fl := (match PP.underlying 55 with | some (.struct fs) => fs.getD 3 default | _ => default)) (by kernel_rfl) ty_51 (by decide) b o w
theorem fld_55_4 (b o : Nat) (w : World) : (Instr.fieldAt 55 (ptr b o) 4).run PP w = .ok (ptr b (o + 4)) w := run_field Try.underlying55 (fl := (match PP.underlying 55 with | some (.struct fs) => fs.getD 4 default | _ => default)) (by kernel_rfl) ty_52 (by decide) b o w
theorem fld_55_5 (b o : Nat) (w : World) : (Instr.fieldAt 55 (ptr b o) 5).run PP w = .ok (ptr b (o + 5)) w := run_field Try.underlying55 (fl := (match PP.underlying 55 with | some (.struct fs) => fs.getD 5 default | _ => default)) (by kernel_rfl) ty_53 (by decide) b o w
end Go.Proofs.Ytabpehobmljaaaa
