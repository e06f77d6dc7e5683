/- What the program's table says of its types, and which functions have a body: instances. Printed by a program of this claim's author. -/
import Derived.Test.YtbkmfoelaapkaaaPvApp
import Derived.Test.YtbkmfoelaapkaaaProg
import Derived.KernelRfl
namespace Go.Proofs.Ytbkmfoelaapkaaa
open Go Go.RowKit

noncomputable def fn1 : TypeDesc := .func (match Try.prog.underlying 1 with | some (.func ps _ _) => ps | _ => #[]) (match Try.prog.underlying 1 with | some (.func _ rs _) => rs | _ => #[]) (match Try.prog.underlying 1 with | some (.func _ _ v) => v | _ => false)
instance : Ty Try.prog 1 (fn1) 1 8 := ⟨by kernel_rfl, by kernel_rfl⟩
instance : TyZ Try.prog 1 (.nilFunc) := ⟨by kernel_rfl⟩
instance : Ty Try.prog 2 (.int .i64) 1 8 := ⟨by kernel_rfl, by kernel_rfl⟩
instance : TyZ Try.prog 2 (.int .i64 0) := ⟨by kernel_rfl⟩
instance : Ty Try.prog 3 (.int .i64) 1 8 := ⟨by kernel_rfl, by kernel_rfl⟩
instance : TyZ Try.prog 3 (.int .i64 0) := ⟨by kernel_rfl⟩
instance : Ty Try.prog 4 (.bool) 1 1 := ⟨by kernel_rfl, by kernel_rfl⟩
instance : TyZ Try.prog 4 (.bool false) := ⟨by kernel_rfl⟩
instance : Ty Try.prog 5 (.int .u8) 1 1 := ⟨by kernel_rfl, by kernel_rfl⟩
instance : TyZ Try.prog 5 (.int .u8 0) := ⟨by kernel_rfl⟩
instance : Ty Try.prog 6 (.int .u8) 1 1 := ⟨by kernel_rfl, by kernel_rfl⟩
instance : TyZ Try.prog 6 (.int .u8 0) := ⟨by kernel_rfl⟩
noncomputable def st7 : Array Field := match Try.prog.underlying 7 with | some (.struct fs) => fs | _ => #[]
instance : Ty Try.prog 7 (.struct st7) 4 24 := ⟨by kernel_rfl, by kernel_rfl⟩
instance : TyZ Try.prog 7 (.agg #[.int .i64 0, .int .i64 0, .bool false, .int .u8 0]) := ⟨by kernel_rfl⟩
instance : Fld Try.prog 7 0 0 2 := ⟨st7, st7[0]!, by kernel_rfl, by kernel_rfl, by kernel_rfl, by kernel_rfl⟩
instance : Fld Try.prog 7 1 1 3 := ⟨st7, st7[1]!, by kernel_rfl, by kernel_rfl, by kernel_rfl, by kernel_rfl⟩
instance : Fld Try.prog 7 2 2 4 := ⟨st7, st7[2]!, by kernel_rfl, by kernel_rfl, by kernel_rfl, by kernel_rfl⟩
instance : Fld Try.prog 7 3 3 6 := ⟨st7, st7[3]!, by kernel_rfl, by kernel_rfl, by kernel_rfl, by kernel_rfl⟩
instance : Stc Try.prog 7 [(0, 1), (1, 1), (2, 1), (3, 1)] := ⟨st7.toList, by kernel_rfl, by kernel_rfl⟩
instance : Ty Try.prog 8 (.struct st7) 4 24 := ⟨by kernel_rfl, by kernel_rfl⟩
instance : TyZ Try.prog 8 (.agg #[.int .i64 0, .int .i64 0, .bool false, .int .u8 0]) := ⟨by kernel_rfl⟩
instance : Fld Try.prog 8 0 0 2 := ⟨st7, st7[0]!, by kernel_rfl, by kernel_rfl, by kernel_rfl, by kernel_rfl⟩
instance : Fld Try.prog 8 1 1 3 := ⟨st7, st7[1]!, by kernel_rfl, by kernel_rfl, by kernel_rfl, by kernel_rfl⟩
instance : Fld Try.prog 8 2 2 4 := ⟨st7, st7[2]!, by kernel_rfl, by kernel_rfl, by kernel_rfl, by kernel_rfl⟩
instance : Fld Try.prog 8 3 3 6 := ⟨st7, st7[3]!, by kernel_rfl, by kernel_rfl, by kernel_rfl, by kernel_rfl⟩
instance : Stc Try.prog 8 [(0, 1), (1, 1), (2, 1), (3, 1)] := ⟨st7.toList, by kernel_rfl, by kernel_rfl⟩
instance : Ty Try.prog 9 (.string) 1 16 := ⟨by kernel_rfl, by kernel_rfl⟩
instance : TyZ Try.prog 9 (.string ⟨#[]⟩) := ⟨by kernel_rfl⟩
instance : Ty Try.prog 10 (.string) 1 16 := ⟨by kernel_rfl, by kernel_rfl⟩
instance : TyZ Try.prog 10 (.string ⟨#[]⟩) := ⟨by kernel_rfl⟩
instance : Ty Try.prog 11 (.string) 1 16 := ⟨by kernel_rfl, by kernel_rfl⟩
instance : TyZ Try.prog 11 (.string ⟨#[]⟩) := ⟨by kernel_rfl⟩
instance : Ty Try.prog 12 (.int .u64) 1 8 := ⟨by kernel_rfl, by kernel_rfl⟩
instance : TyZ Try.prog 12 (.int .u64 0) := ⟨by kernel_rfl⟩
noncomputable def st13 : Array Field := match Try.prog.underlying 13 with | some (.struct fs) => fs | _ => #[]
instance : Ty Try.prog 13 (.struct st13) 2 24 := ⟨by kernel_rfl, by kernel_rfl⟩
instance : TyZ Try.prog 13 (.agg #[.string ⟨#[]⟩, .int .u64 0]) := ⟨by kernel_rfl⟩
instance : Fld Try.prog 13 0 0 9 := ⟨st13, st13[0]!, by kernel_rfl, by kernel_rfl, by kernel_rfl, by kernel_rfl⟩
instance : Fld Try.prog 13 1 1 12 := ⟨st13, st13[1]!, by kernel_rfl, by kernel_rfl, by kernel_rfl, by kernel_rfl⟩
instance : Stc Try.prog 13 [(0, 1), (1, 1)] := ⟨st13.toList, by kernel_rfl, by kernel_rfl⟩
instance : Ty Try.prog 14 (.struct st13) 2 24 := ⟨by kernel_rfl, by kernel_rfl⟩
instance : TyZ Try.prog 14 (.agg #[.string ⟨#[]⟩, .int .u64 0]) := ⟨by kernel_rfl⟩
instance : Fld Try.prog 14 0 0 9 := ⟨st13, st13[0]!, by kernel_rfl, by kernel_rfl, by kernel_rfl, by kernel_rfl⟩
instance : Fld Try.prog 14 1 1 12 := ⟨st13, st13[1]!, by kernel_rfl, by kernel_rfl, by kernel_rfl, by kernel_rfl⟩
instance : Stc Try.prog 14 [(0, 1), (1, 1)] := ⟨st13.toList, by kernel_rfl, by kernel_rfl⟩
instance : Ty Try.prog 15 (.pointer 77) 1 8 := ⟨by kernel_rfl, by kernel_rfl⟩
instance : TyZ Try.prog 15 (.pointer none) := ⟨by kernel_rfl⟩
instance : Ty Try.prog 16 (.pointer 80) 1 8 := ⟨by kernel_rfl, by kernel_rfl⟩
instance : TyZ Try.prog 16 (.pointer none) := ⟨by kernel_rfl⟩
instance : Ty Try.prog 17 (.pointer 89) 1 8 := ⟨by kernel_rfl, by kernel_rfl⟩
instance : TyZ Try.prog 17 (.pointer none) := ⟨by kernel_rfl⟩
noncomputable def st18 : Array Field := match Try.prog.underlying 18 with | some (.struct fs) => fs | _ => #[]
instance : Ty Try.prog 18 (.struct st18) 1 8 := ⟨by kernel_rfl, by kernel_rfl⟩
instance : TyZ Try.prog 18 (.agg #[.pointer none]) := ⟨by kernel_rfl⟩
instance : Fld Try.prog 18 0 0 17 := ⟨st18, st18[0]!, by kernel_rfl, by kernel_rfl, by kernel_rfl, by kernel_rfl⟩
instance : Stc Try.prog 18 [(0, 1)] := ⟨st18.toList, by kernel_rfl, by kernel_rfl⟩
instance : Ty Try.prog 19 (.struct st18) 1 8 := ⟨by kernel_rfl, by kernel_rfl⟩
instance : TyZ Try.prog 19 (.agg #[.pointer none]) := ⟨by kernel_rfl⟩
instance : Fld Try.prog 19 0 0 17 := ⟨st18, st18[0]!, by kernel_rfl, by kernel_rfl, by kernel_rfl, by kernel_rfl⟩
instance : Stc Try.prog 19 [(0, 1)] := ⟨st18.toList, by kernel_rfl, by kernel_rfl⟩
instance : Ty Try.prog 21 (.int .i32) 1 4 := ⟨by kernel_rfl, by kernel_rfl⟩
instance : TyZ Try.prog 21 (.int .i32 0) := ⟨by kernel_rfl⟩
instance : Ty Try.prog 22 (.slice 5) 1 24 := ⟨by kernel_rfl, by kernel_rfl⟩
instance : TyZ Try.prog 22 (.slice none 0 0) := ⟨by kernel_rfl⟩
noncomputable def fn23 : TypeDesc := .func (match Try.prog.underlying 23 with | some (.func ps _ _) => ps | _ => #[]) (match Try.prog.underlying 23 with | some (.func _ rs _) => rs | _ => #[]) (match Try.prog.underlying 23 with | some (.func _ _ v) => v | _ => false)
instance : Ty Try.prog 23 (fn23) 1 8 := ⟨by kernel_rfl, by kernel_rfl⟩
instance : TyZ Try.prog 23 (.nilFunc) := ⟨by kernel_rfl⟩
noncomputable def fn24 : TypeDesc := .func (match Try.prog.underlying 24 with | some (.func ps _ _) => ps | _ => #[]) (match Try.prog.underlying 24 with | some (.func _ rs _) => rs | _ => #[]) (match Try.prog.underlying 24 with | some (.func _ _ v) => v | _ => false)
instance : Ty Try.prog 24 (fn24) 1 8 := ⟨by kernel_rfl, by kernel_rfl⟩
instance : TyZ Try.prog 24 (.nilFunc) := ⟨by kernel_rfl⟩
noncomputable def fn25 : TypeDesc := .func (match Try.prog.underlying 25 with | some (.func ps _ _) => ps | _ => #[]) (match Try.prog.underlying 25 with | some (.func _ rs _) => rs | _ => #[]) (match Try.prog.underlying 25 with | some (.func _ _ v) => v | _ => false)
instance : Ty Try.prog 25 (fn25) 1 8 := ⟨by kernel_rfl, by kernel_rfl⟩
instance : TyZ Try.prog 25 (.nilFunc) := ⟨by kernel_rfl⟩
noncomputable def fn26 : TypeDesc := .func (match Try.prog.underlying 26 with | some (.func ps _ _) => ps | _ => #[]) (match Try.prog.underlying 26 with | some (.func _ rs _) => rs | _ => #[]) (match Try.prog.underlying 26 with | some (.func _ _ v) => v | _ => false)
instance : Ty Try.prog 26 (fn26) 1 8 := ⟨by kernel_rfl, by kernel_rfl⟩
instance : TyZ Try.prog 26 (.nilFunc) := ⟨by kernel_rfl⟩
instance : Ty Try.prog 27 (.slice 22) 1 24 := ⟨by kernel_rfl, by kernel_rfl⟩
instance : TyZ Try.prog 27 (.slice none 0 0) := ⟨by kernel_rfl⟩
instance : Ty Try.prog 28 (.slice 4) 1 24 := ⟨by kernel_rfl, by kernel_rfl⟩
instance : TyZ Try.prog 28 (.slice none 0 0) := ⟨by kernel_rfl⟩
instance : Ty Try.prog 29 (.pointer 64) 1 8 := ⟨by kernel_rfl, by kernel_rfl⟩
instance : TyZ Try.prog 29 (.pointer none) := ⟨by kernel_rfl⟩
noncomputable def fn30 : TypeDesc := .func (match Try.prog.underlying 30 with | some (.func ps _ _) => ps | _ => #[]) (match Try.prog.underlying 30 with | some (.func _ rs _) => rs | _ => #[]) (match Try.prog.underlying 30 with | some (.func _ _ v) => v | _ => false)
instance : Ty Try.prog 30 (fn30) 1 8 := ⟨by kernel_rfl, by kernel_rfl⟩
instance : TyZ Try.prog 30 (.nilFunc) := ⟨by kernel_rfl⟩
noncomputable def fn31 : TypeDesc := .func (match Try.prog.underlying 31 with | some (.func ps _ _) => ps | _ => #[]) (match Try.prog.underlying 31 with | some (.func _ rs _) => rs | _ => #[]) (match Try.prog.underlying 31 with | some (.func _ _ v) => v | _ => false)
instance : Ty Try.prog 31 (fn31) 1 8 := ⟨by kernel_rfl, by kernel_rfl⟩
instance : TyZ Try.prog 31 (.nilFunc) := ⟨by kernel_rfl⟩
noncomputable def fn32 : TypeDesc := .func (match Try.prog.underlying 32 with | some (.func ps _ _) => ps | _ => #[]) (match Try.prog.underlying 32 with | some (.func _ rs _) => rs | _ => #[]) (match Try.prog.underlying 32 with | some (.func _ _ v) => v | _ => false)
instance : Ty Try.prog 32 (fn32) 1 8 := ⟨by kernel_rfl, by kernel_rfl⟩
instance : TyZ Try.prog 32 (.nilFunc) := ⟨by kernel_rfl⟩
noncomputable def fn33 : TypeDesc := .func (match Try.prog.underlying 33 with | some (.func ps _ _) => ps | _ => #[]) (match Try.prog.underlying 33 with | some (.func _ rs _) => rs | _ => #[]) (match Try.prog.underlying 33 with | some (.func _ _ v) => v | _ => false)
instance : Ty Try.prog 33 (fn33) 1 8 := ⟨by kernel_rfl, by kernel_rfl⟩
instance : TyZ Try.prog 33 (.nilFunc) := ⟨by kernel_rfl⟩
noncomputable def fn34 : TypeDesc := .func (match Try.prog.underlying 34 with | some (.func ps _ _) => ps | _ => #[]) (match Try.prog.underlying 34 with | some (.func _ rs _) => rs | _ => #[]) (match Try.prog.underlying 34 with | some (.func _ _ v) => v | _ => false)
instance : Ty Try.prog 34 (fn34) 1 8 := ⟨by kernel_rfl, by kernel_rfl⟩
instance : TyZ Try.prog 34 (.nilFunc) := ⟨by kernel_rfl⟩
instance : Ty Try.prog 35 (.int .u32) 1 4 := ⟨by kernel_rfl, by kernel_rfl⟩
instance : TyZ Try.prog 35 (.int .u32 0) := ⟨by kernel_rfl⟩
instance : Ty Try.prog 36 (.array 64 35) 64 256 := ⟨by kernel_rfl, by kernel_rfl⟩
instance : TyZ Try.prog 36 (.agg (Array.replicate 64 (.int .u32 0))) := ⟨by kernel_rfl⟩
instance : Ty Try.prog 37 (.array 8 35) 8 32 := ⟨by kernel_rfl, by kernel_rfl⟩
instance : TyZ Try.prog 37 (.agg #[.int .u32 0, .int .u32 0, .int .u32 0, .int .u32 0, .int .u32 0, .int .u32 0, .int .u32 0, .int .u32 0]) := ⟨by kernel_rfl⟩
noncomputable def fn39 : TypeDesc := .func (match Try.prog.underlying 39 with | some (.func ps _ _) => ps | _ => #[]) (match Try.prog.underlying 39 with | some (.func _ rs _) => rs | _ => #[]) (match Try.prog.underlying 39 with | some (.func _ _ v) => v | _ => false)
instance : Ty Try.prog 39 (fn39) 1 8 := ⟨by kernel_rfl, by kernel_rfl⟩
instance : TyZ Try.prog 39 (.nilFunc) := ⟨by kernel_rfl⟩
noncomputable def fn40 : TypeDesc := .func (match Try.prog.underlying 40 with | some (.func ps _ _) => ps | _ => #[]) (match Try.prog.underlying 40 with | some (.func _ rs _) => rs | _ => #[]) (match Try.prog.underlying 40 with | some (.func _ _ v) => v | _ => false)
instance : Ty Try.prog 40 (fn40) 1 8 := ⟨by kernel_rfl, by kernel_rfl⟩
instance : TyZ Try.prog 40 (.nilFunc) := ⟨by kernel_rfl⟩
noncomputable def fn41 : TypeDesc := .func (match Try.prog.underlying 41 with | some (.func ps _ _) => ps | _ => #[]) (match Try.prog.underlying 41 with | some (.func _ rs _) => rs | _ => #[]) (match Try.prog.underlying 41 with | some (.func _ _ v) => v | _ => false)
instance : Ty Try.prog 41 (fn41) 1 8 := ⟨by kernel_rfl, by kernel_rfl⟩
instance : TyZ Try.prog 41 (.nilFunc) := ⟨by kernel_rfl⟩
instance : Ty Try.prog 42 (.int .u64) 1 8 := ⟨by kernel_rfl, by kernel_rfl⟩
instance : TyZ Try.prog 42 (.int .u64 0) := ⟨by kernel_rfl⟩
noncomputable def fn43 : TypeDesc := .func (match Try.prog.underlying 43 with | some (.func ps _ _) => ps | _ => #[]) (match Try.prog.underlying 43 with | some (.func _ rs _) => rs | _ => #[]) (match Try.prog.underlying 43 with | some (.func _ _ v) => v | _ => false)
instance : Ty Try.prog 43 (fn43) 1 8 := ⟨by kernel_rfl, by kernel_rfl⟩
instance : TyZ Try.prog 43 (.nilFunc) := ⟨by kernel_rfl⟩
noncomputable def fn44 : TypeDesc := .func (match Try.prog.underlying 44 with | some (.func ps _ _) => ps | _ => #[]) (match Try.prog.underlying 44 with | some (.func _ rs _) => rs | _ => #[]) (match Try.prog.underlying 44 with | some (.func _ _ v) => v | _ => false)
instance : Ty Try.prog 44 (fn44) 1 8 := ⟨by kernel_rfl, by kernel_rfl⟩
instance : TyZ Try.prog 44 (.nilFunc) := ⟨by kernel_rfl⟩
noncomputable def fn45 : TypeDesc := .func (match Try.prog.underlying 45 with | some (.func ps _ _) => ps | _ => #[]) (match Try.prog.underlying 45 with | some (.func _ rs _) => rs | _ => #[]) (match Try.prog.underlying 45 with | some (.func _ _ v) => v | _ => false)
instance : Ty Try.prog 45 (fn45) 1 8 := ⟨by kernel_rfl, by kernel_rfl⟩
instance : TyZ Try.prog 45 (.nilFunc) := ⟨by kernel_rfl⟩
noncomputable def fn46 : TypeDesc := .func (match Try.prog.underlying 46 with | some (.func ps _ _) => ps | _ => #[]) (match Try.prog.underlying 46 with | some (.func _ rs _) => rs | _ => #[]) (match Try.prog.underlying 46 with | some (.func _ _ v) => v | _ => false)
instance : Ty Try.prog 46 (fn46) 1 8 := ⟨by kernel_rfl, by kernel_rfl⟩
instance : TyZ Try.prog 46 (.nilFunc) := ⟨by kernel_rfl⟩
noncomputable def fn47 : TypeDesc := .func (match Try.prog.underlying 47 with | some (.func ps _ _) => ps | _ => #[]) (match Try.prog.underlying 47 with | some (.func _ rs _) => rs | _ => #[]) (match Try.prog.underlying 47 with | some (.func _ _ v) => v | _ => false)
instance : Ty Try.prog 47 (fn47) 1 8 := ⟨by kernel_rfl, by kernel_rfl⟩
instance : TyZ Try.prog 47 (.nilFunc) := ⟨by kernel_rfl⟩
noncomputable def fn48 : TypeDesc := .func (match Try.prog.underlying 48 with | some (.func ps _ _) => ps | _ => #[]) (match Try.prog.underlying 48 with | some (.func _ rs _) => rs | _ => #[]) (match Try.prog.underlying 48 with | some (.func _ _ v) => v | _ => false)
instance : Ty Try.prog 48 (fn48) 1 8 := ⟨by kernel_rfl, by kernel_rfl⟩
instance : TyZ Try.prog 48 (.nilFunc) := ⟨by kernel_rfl⟩
instance : Ty Try.prog 49 (.int .i64) 1 8 := ⟨by kernel_rfl, by kernel_rfl⟩
instance : TyZ Try.prog 49 (.int .i64 0) := ⟨by kernel_rfl⟩
noncomputable def fn51 : TypeDesc := .func (match Try.prog.underlying 51 with | some (.func ps _ _) => ps | _ => #[]) (match Try.prog.underlying 51 with | some (.func _ rs _) => rs | _ => #[]) (match Try.prog.underlying 51 with | some (.func _ _ v) => v | _ => false)
instance : Ty Try.prog 51 (fn51) 1 8 := ⟨by kernel_rfl, by kernel_rfl⟩
instance : TyZ Try.prog 51 (.nilFunc) := ⟨by kernel_rfl⟩
noncomputable def fn52 : TypeDesc := .func (match Try.prog.underlying 52 with | some (.func ps _ _) => ps | _ => #[]) (match Try.prog.underlying 52 with | some (.func _ rs _) => rs | _ => #[]) (match Try.prog.underlying 52 with | some (.func _ _ v) => v | _ => false)
instance : Ty Try.prog 52 (fn52) 1 8 := ⟨by kernel_rfl, by kernel_rfl⟩
instance : TyZ Try.prog 52 (.nilFunc) := ⟨by kernel_rfl⟩
noncomputable def fn53 : TypeDesc := .func (match Try.prog.underlying 53 with | some (.func ps _ _) => ps | _ => #[]) (match Try.prog.underlying 53 with | some (.func _ rs _) => rs | _ => #[]) (match Try.prog.underlying 53 with | some (.func _ _ v) => v | _ => false)
instance : Ty Try.prog 53 (fn53) 1 8 := ⟨by kernel_rfl, by kernel_rfl⟩
instance : TyZ Try.prog 53 (.nilFunc) := ⟨by kernel_rfl⟩
noncomputable def fn54 : TypeDesc := .func (match Try.prog.underlying 54 with | some (.func ps _ _) => ps | _ => #[]) (match Try.prog.underlying 54 with | some (.func _ rs _) => rs | _ => #[]) (match Try.prog.underlying 54 with | some (.func _ _ v) => v | _ => false)
instance : Ty Try.prog 54 (fn54) 1 8 := ⟨by kernel_rfl, by kernel_rfl⟩
instance : TyZ Try.prog 54 (.nilFunc) := ⟨by kernel_rfl⟩
noncomputable def fn55 : TypeDesc := .func (match Try.prog.underlying 55 with | some (.func ps _ _) => ps | _ => #[]) (match Try.prog.underlying 55 with | some (.func _ rs _) => rs | _ => #[]) (match Try.prog.underlying 55 with | some (.func _ _ v) => v | _ => false)
instance : Ty Try.prog 55 (fn55) 1 8 := ⟨by kernel_rfl, by kernel_rfl⟩
instance : TyZ Try.prog 55 (.nilFunc) := ⟨by kernel_rfl⟩
noncomputable def fn56 : TypeDesc := .func (match Try.prog.underlying 56 with | some (.func ps _ _) => ps | _ => #[]) (match Try.prog.underlying 56 with | some (.func _ rs _) => rs | _ => #[]) (match Try.prog.underlying 56 with | some (.func _ _ v) => v | _ => false)
instance : Ty Try.prog 56 (fn56) 1 8 := ⟨by kernel_rfl, by kernel_rfl⟩
instance : TyZ Try.prog 56 (.nilFunc) := ⟨by kernel_rfl⟩
noncomputable def fn57 : TypeDesc := .func (match Try.prog.underlying 57 with | some (.func ps _ _) => ps | _ => #[]) (match Try.prog.underlying 57 with | some (.func _ rs _) => rs | _ => #[]) (match Try.prog.underlying 57 with | some (.func _ _ v) => v | _ => false)
instance : Ty Try.prog 57 (fn57) 1 8 := ⟨by kernel_rfl, by kernel_rfl⟩
instance : TyZ Try.prog 57 (.nilFunc) := ⟨by kernel_rfl⟩
noncomputable def fn58 : TypeDesc := .func (match Try.prog.underlying 58 with | some (.func ps _ _) => ps | _ => #[]) (match Try.prog.underlying 58 with | some (.func _ rs _) => rs | _ => #[]) (match Try.prog.underlying 58 with | some (.func _ _ v) => v | _ => false)
instance : Ty Try.prog 58 (fn58) 1 8 := ⟨by kernel_rfl, by kernel_rfl⟩
instance : TyZ Try.prog 58 (.nilFunc) := ⟨by kernel_rfl⟩
instance : Ty Try.prog 59 (.int .u64) 1 8 := ⟨by kernel_rfl, by kernel_rfl⟩
instance : TyZ Try.prog 59 (.int .u64 0) := ⟨by kernel_rfl⟩
noncomputable def fn60 : TypeDesc := .func (match Try.prog.underlying 60 with | some (.func ps _ _) => ps | _ => #[]) (match Try.prog.underlying 60 with | some (.func _ rs _) => rs | _ => #[]) (match Try.prog.underlying 60 with | some (.func _ _ v) => v | _ => false)
instance : Ty Try.prog 60 (fn60) 1 8 := ⟨by kernel_rfl, by kernel_rfl⟩
instance : TyZ Try.prog 60 (.nilFunc) := ⟨by kernel_rfl⟩
instance : Ty Try.prog 61 (.array 8 35) 8 32 := ⟨by kernel_rfl, by kernel_rfl⟩
instance : TyZ Try.prog 61 (.agg #[.int .u32 0, .int .u32 0, .int .u32 0, .int .u32 0, .int .u32 0, .int .u32 0, .int .u32 0, .int .u32 0]) := ⟨by kernel_rfl⟩
noncomputable def fn62 : TypeDesc := .func (match Try.prog.underlying 62 with | some (.func ps _ _) => ps | _ => #[]) (match Try.prog.underlying 62 with | some (.func _ rs _) => rs | _ => #[]) (match Try.prog.underlying 62 with | some (.func _ _ v) => v | _ => false)
instance : Ty Try.prog 62 (fn62) 1 8 := ⟨by kernel_rfl, by kernel_rfl⟩
instance : TyZ Try.prog 62 (.nilFunc) := ⟨by kernel_rfl⟩
noncomputable def st63 : Array Field := match Try.prog.underlying 63 with | some (.struct fs) => fs | _ => #[]
instance : Ty Try.prog 63 (.struct st63) 10 64 := ⟨by kernel_rfl, by kernel_rfl⟩
instance : TyZ Try.prog 63 (.agg #[.int .u32 0, .int .u32 0, .int .u32 0, .int .u32 0, .int .u32 0, .int .u32 0, .int .u32 0, .int .u32 0, .slice none 0 0, .int .i64 0]) := ⟨by kernel_rfl⟩
instance : Fld Try.prog 63 0 0 61 := ⟨st63, st63[0]!, by kernel_rfl, by kernel_rfl, by kernel_rfl, by kernel_rfl⟩
instance : Fld Try.prog 63 1 8 22 := ⟨st63, st63[1]!, by kernel_rfl, by kernel_rfl, by kernel_rfl, by kernel_rfl⟩
instance : Fld Try.prog 63 2 9 3 := ⟨st63, st63[2]!, by kernel_rfl, by kernel_rfl, by kernel_rfl, by kernel_rfl⟩
instance : Stc Try.prog 63 [(0, 8), (8, 1), (9, 1)] := ⟨st63.toList, by kernel_rfl, by kernel_rfl⟩
instance : Ty Try.prog 64 (.struct st63) 10 64 := ⟨by kernel_rfl, by kernel_rfl⟩
instance : TyZ Try.prog 64 (.agg #[.int .u32 0, .int .u32 0, .int .u32 0, .int .u32 0, .int .u32 0, .int .u32 0, .int .u32 0, .int .u32 0, .slice none 0 0, .int .i64 0]) := ⟨by kernel_rfl⟩
instance : Fld Try.prog 64 0 0 61 := ⟨st63, st63[0]!, by kernel_rfl, by kernel_rfl, by kernel_rfl, by kernel_rfl⟩
instance : Fld Try.prog 64 1 8 22 := ⟨st63, st63[1]!, by kernel_rfl, by kernel_rfl, by kernel_rfl, by kernel_rfl⟩
instance : Fld Try.prog 64 2 9 3 := ⟨st63, st63[2]!, by kernel_rfl, by kernel_rfl, by kernel_rfl, by kernel_rfl⟩
instance : Stc Try.prog 64 [(0, 8), (8, 1), (9, 1)] := ⟨st63.toList, by kernel_rfl, by kernel_rfl⟩
noncomputable def fn65 : TypeDesc := .func (match Try.prog.underlying 65 with | some (.func ps _ _) => ps | _ => #[]) (match Try.prog.underlying 65 with | some (.func _ rs _) => rs | _ => #[]) (match Try.prog.underlying 65 with | some (.func _ _ v) => v | _ => false)
instance : Ty Try.prog 65 (fn65) 1 8 := ⟨by kernel_rfl, by kernel_rfl⟩
instance : TyZ Try.prog 65 (.nilFunc) := ⟨by kernel_rfl⟩
noncomputable def fn66 : TypeDesc := .func (match Try.prog.underlying 66 with | some (.func ps _ _) => ps | _ => #[]) (match Try.prog.underlying 66 with | some (.func _ rs _) => rs | _ => #[]) (match Try.prog.underlying 66 with | some (.func _ _ v) => v | _ => false)
instance : Ty Try.prog 66 (fn66) 1 8 := ⟨by kernel_rfl, by kernel_rfl⟩
instance : TyZ Try.prog 66 (.nilFunc) := ⟨by kernel_rfl⟩
noncomputable def fn67 : TypeDesc := .func (match Try.prog.underlying 67 with | some (.func ps _ _) => ps | _ => #[]) (match Try.prog.underlying 67 with | some (.func _ rs _) => rs | _ => #[]) (match Try.prog.underlying 67 with | some (.func _ _ v) => v | _ => false)
instance : Ty Try.prog 67 (fn67) 1 8 := ⟨by kernel_rfl, by kernel_rfl⟩
instance : TyZ Try.prog 67 (.nilFunc) := ⟨by kernel_rfl⟩
instance : Ty Try.prog 68 (.slice 35) 1 24 := ⟨by kernel_rfl, by kernel_rfl⟩
instance : TyZ Try.prog 68 (.slice none 0 0) := ⟨by kernel_rfl⟩
noncomputable def fn69 : TypeDesc := .func (match Try.prog.underlying 69 with | some (.func ps _ _) => ps | _ => #[]) (match Try.prog.underlying 69 with | some (.func _ rs _) => rs | _ => #[]) (match Try.prog.underlying 69 with | some (.func _ _ v) => v | _ => false)
instance : Ty Try.prog 69 (fn69) 1 8 := ⟨by kernel_rfl, by kernel_rfl⟩
instance : TyZ Try.prog 69 (.nilFunc) := ⟨by kernel_rfl⟩
instance : Ty Try.prog 70 (.pointer 61) 1 8 := ⟨by kernel_rfl, by kernel_rfl⟩
instance : TyZ Try.prog 70 (.pointer none) := ⟨by kernel_rfl⟩
noncomputable def fn71 : TypeDesc := .func (match Try.prog.underlying 71 with | some (.func ps _ _) => ps | _ => #[]) (match Try.prog.underlying 71 with | some (.func _ rs _) => rs | _ => #[]) (match Try.prog.underlying 71 with | some (.func _ _ v) => v | _ => false)
instance : Ty Try.prog 71 (fn71) 1 8 := ⟨by kernel_rfl, by kernel_rfl⟩
instance : TyZ Try.prog 71 (.nilFunc) := ⟨by kernel_rfl⟩
noncomputable def fn72 : TypeDesc := .func (match Try.prog.underlying 72 with | some (.func ps _ _) => ps | _ => #[]) (match Try.prog.underlying 72 with | some (.func _ rs _) => rs | _ => #[]) (match Try.prog.underlying 72 with | some (.func _ _ v) => v | _ => false)
instance : Ty Try.prog 72 (fn72) 1 8 := ⟨by kernel_rfl, by kernel_rfl⟩
instance : TyZ Try.prog 72 (.nilFunc) := ⟨by kernel_rfl⟩
instance : Ty Try.prog 73 (.slice 59) 1 24 := ⟨by kernel_rfl, by kernel_rfl⟩
instance : TyZ Try.prog 73 (.slice none 0 0) := ⟨by kernel_rfl⟩
noncomputable def fn74 : TypeDesc := .func (match Try.prog.underlying 74 with | some (.func ps _ _) => ps | _ => #[]) (match Try.prog.underlying 74 with | some (.func _ rs _) => rs | _ => #[]) (match Try.prog.underlying 74 with | some (.func _ _ v) => v | _ => false)
instance : Ty Try.prog 74 (fn74) 1 8 := ⟨by kernel_rfl, by kernel_rfl⟩
instance : TyZ Try.prog 74 (.nilFunc) := ⟨by kernel_rfl⟩
noncomputable def fn75 : TypeDesc := .func (match Try.prog.underlying 75 with | some (.func ps _ _) => ps | _ => #[]) (match Try.prog.underlying 75 with | some (.func _ rs _) => rs | _ => #[]) (match Try.prog.underlying 75 with | some (.func _ _ v) => v | _ => false)
instance : Ty Try.prog 75 (fn75) 1 8 := ⟨by kernel_rfl, by kernel_rfl⟩
instance : TyZ Try.prog 75 (.nilFunc) := ⟨by kernel_rfl⟩
noncomputable def st76 : Array Field := match Try.prog.underlying 76 with | some (.struct fs) => fs | _ => #[]
instance : Ty Try.prog 76 (.struct st76) 4 40 := ⟨by kernel_rfl, by kernel_rfl⟩
instance : TyZ Try.prog 76 (.agg #[.pointer none, .pointer none, .pointer none, .string ⟨#[]⟩]) := ⟨by kernel_rfl⟩
instance : Fld Try.prog 76 0 0 17 := ⟨st76, st76[0]!, by kernel_rfl, by kernel_rfl, by kernel_rfl, by kernel_rfl⟩
instance : Fld Try.prog 76 1 1 17 := ⟨st76, st76[1]!, by kernel_rfl, by kernel_rfl, by kernel_rfl, by kernel_rfl⟩
instance : Fld Try.prog 76 2 2 17 := ⟨st76, st76[2]!, by kernel_rfl, by kernel_rfl, by kernel_rfl, by kernel_rfl⟩
instance : Fld Try.prog 76 3 3 9 := ⟨st76, st76[3]!, by kernel_rfl, by kernel_rfl, by kernel_rfl, by kernel_rfl⟩
instance : Stc Try.prog 76 [(0, 1), (1, 1), (2, 1), (3, 1)] := ⟨st76.toList, by kernel_rfl, by kernel_rfl⟩
instance : Ty Try.prog 77 (.struct st76) 4 40 := ⟨by kernel_rfl, by kernel_rfl⟩
instance : TyZ Try.prog 77 (.agg #[.pointer none, .pointer none, .pointer none, .string ⟨#[]⟩]) := ⟨by kernel_rfl⟩
instance : Fld Try.prog 77 0 0 17 := ⟨st76, st76[0]!, by kernel_rfl, by kernel_rfl, by kernel_rfl, by kernel_rfl⟩
instance : Fld Try.prog 77 1 1 17 := ⟨st76, st76[1]!, by kernel_rfl, by kernel_rfl, by kernel_rfl, by kernel_rfl⟩
instance : Fld Try.prog 77 2 2 17 := ⟨st76, st76[2]!, by kernel_rfl, by kernel_rfl, by kernel_rfl, by kernel_rfl⟩
instance : Fld Try.prog 77 3 3 9 := ⟨st76, st76[3]!, by kernel_rfl, by kernel_rfl, by kernel_rfl, by kernel_rfl⟩
instance : Stc Try.prog 77 [(0, 1), (1, 1), (2, 1), (3, 1)] := ⟨st76.toList, by kernel_rfl, by kernel_rfl⟩
instance : Ty Try.prog 78 (.array 0 16) 0 0 := ⟨by kernel_rfl, by kernel_rfl⟩
instance : TyZ Try.prog 78 (.agg #[]) := ⟨by kernel_rfl⟩
noncomputable def st79 : Array Field := match Try.prog.underlying 79 with | some (.struct fs) => fs | _ => #[]
instance : Ty Try.prog 79 (.struct st79) 0 0 := ⟨by kernel_rfl, by kernel_rfl⟩
instance : TyZ Try.prog 79 (.agg #[]) := ⟨by kernel_rfl⟩
instance : Fld Try.prog 79 0 0 78 := ⟨st79, st79[0]!, by kernel_rfl, by kernel_rfl, by kernel_rfl, by kernel_rfl⟩
instance : Stc Try.prog 79 [(0, 0)] := ⟨st79.toList, by kernel_rfl, by kernel_rfl⟩
instance : Ty Try.prog 80 (.struct st79) 0 0 := ⟨by kernel_rfl, by kernel_rfl⟩
instance : TyZ Try.prog 80 (.agg #[]) := ⟨by kernel_rfl⟩
instance : Fld Try.prog 80 0 0 78 := ⟨st79, st79[0]!, by kernel_rfl, by kernel_rfl, by kernel_rfl, by kernel_rfl⟩
instance : Stc Try.prog 80 [(0, 0)] := ⟨st79.toList, by kernel_rfl, by kernel_rfl⟩
noncomputable def fn81 : TypeDesc := .func (match Try.prog.underlying 81 with | some (.func ps _ _) => ps | _ => #[]) (match Try.prog.underlying 81 with | some (.func _ rs _) => rs | _ => #[]) (match Try.prog.underlying 81 with | some (.func _ _ v) => v | _ => false)
instance : Ty Try.prog 81 (fn81) 1 8 := ⟨by kernel_rfl, by kernel_rfl⟩
instance : TyZ Try.prog 81 (.nilFunc) := ⟨by kernel_rfl⟩
instance : Ty Try.prog 82 (.int .u8) 1 1 := ⟨by kernel_rfl, by kernel_rfl⟩
instance : TyZ Try.prog 82 (.int .u8 0) := ⟨by kernel_rfl⟩
instance : Ty Try.prog 83 (.int .u8) 1 1 := ⟨by kernel_rfl, by kernel_rfl⟩
instance : TyZ Try.prog 83 (.int .u8 0) := ⟨by kernel_rfl⟩
noncomputable def fn84 : TypeDesc := .func (match Try.prog.underlying 84 with | some (.func ps _ _) => ps | _ => #[]) (match Try.prog.underlying 84 with | some (.func _ rs _) => rs | _ => #[]) (match Try.prog.underlying 84 with | some (.func _ _ v) => v | _ => false)
instance : Ty Try.prog 84 (fn84) 1 8 := ⟨by kernel_rfl, by kernel_rfl⟩
instance : TyZ Try.prog 84 (.nilFunc) := ⟨by kernel_rfl⟩
instance : Ty Try.prog 85 (.pointer 5) 1 8 := ⟨by kernel_rfl, by kernel_rfl⟩
instance : TyZ Try.prog 85 (.pointer none) := ⟨by kernel_rfl⟩
instance : Ty Try.prog 86 (.int .i32) 1 4 := ⟨by kernel_rfl, by kernel_rfl⟩
instance : TyZ Try.prog 86 (.int .i32 0) := ⟨by kernel_rfl⟩
instance : Ty Try.prog 87 (.int .i32) 1 4 := ⟨by kernel_rfl, by kernel_rfl⟩
instance : TyZ Try.prog 87 (.int .i32 0) := ⟨by kernel_rfl⟩
noncomputable def st88 : Array Field := match Try.prog.underlying 88 with | some (.struct fs) => fs | _ => #[]
instance : Ty Try.prog 88 (.struct st88) 11 48 := ⟨by kernel_rfl, by kernel_rfl⟩
instance : TyZ Try.prog 88 (.agg #[.int .u64 0, .int .u64 0, .int .u32 0, .int .u8 0, .int .u8 0, .int .u8 0, .int .u8 0, .nilFunc, .pointer none, .int .i32 0, .int .i32 0]) := ⟨by kernel_rfl⟩
instance : Fld Try.prog 88 0 0 12 := ⟨st88, st88[0]!, by kernel_rfl, by kernel_rfl, by kernel_rfl, by kernel_rfl⟩
instance : Fld Try.prog 88 1 1 12 := ⟨st88, st88[1]!, by kernel_rfl, by kernel_rfl, by kernel_rfl, by kernel_rfl⟩
instance : Fld Try.prog 88 2 2 35 := ⟨st88, st88[2]!, by kernel_rfl, by kernel_rfl, by kernel_rfl, by kernel_rfl⟩
instance : Fld Try.prog 88 3 3 82 := ⟨st88, st88[3]!, by kernel_rfl, by kernel_rfl, by kernel_rfl, by kernel_rfl⟩
instance : Fld Try.prog 88 4 4 5 := ⟨st88, st88[4]!, by kernel_rfl, by kernel_rfl, by kernel_rfl, by kernel_rfl⟩
instance : Fld Try.prog 88 5 5 5 := ⟨st88, st88[5]!, by kernel_rfl, by kernel_rfl, by kernel_rfl, by kernel_rfl⟩
instance : Fld Try.prog 88 6 6 83 := ⟨st88, st88[6]!, by kernel_rfl, by kernel_rfl, by kernel_rfl, by kernel_rfl⟩
instance : Fld Try.prog 88 7 7 84 := ⟨st88, st88[7]!, by kernel_rfl, by kernel_rfl, by kernel_rfl, by kernel_rfl⟩
instance : Fld Try.prog 88 8 8 85 := ⟨st88, st88[8]!, by kernel_rfl, by kernel_rfl, by kernel_rfl, by kernel_rfl⟩
instance : Fld Try.prog 88 9 9 86 := ⟨st88, st88[9]!, by kernel_rfl, by kernel_rfl, by kernel_rfl, by kernel_rfl⟩
instance : Fld Try.prog 88 10 10 87 := ⟨st88, st88[10]!, by kernel_rfl, by kernel_rfl, by kernel_rfl, by kernel_rfl⟩
instance : Stc Try.prog 88 [(0, 1), (1, 1), (2, 1), (3, 1), (4, 1), (5, 1), (6, 1), (7, 1), (8, 1), (9, 1), (10, 1)] := ⟨st88.toList, by kernel_rfl, by kernel_rfl⟩
instance : Ty Try.prog 89 (.struct st88) 11 48 := ⟨by kernel_rfl, by kernel_rfl⟩
instance : TyZ Try.prog 89 (.agg #[.int .u64 0, .int .u64 0, .int .u32 0, .int .u8 0, .int .u8 0, .int .u8 0, .int .u8 0, .nilFunc, .pointer none, .int .i32 0, .int .i32 0]) := ⟨by kernel_rfl⟩
instance : Fld Try.prog 89 0 0 12 := ⟨st88, st88[0]!, by kernel_rfl, by kernel_rfl, by kernel_rfl, by kernel_rfl⟩
instance : Fld Try.prog 89 1 1 12 := ⟨st88, st88[1]!, by kernel_rfl, by kernel_rfl, by kernel_rfl, by kernel_rfl⟩
instance : Fld Try.prog 89 2 2 35 := ⟨st88, st88[2]!, by kernel_rfl, by kernel_rfl, by kernel_rfl, by kernel_rfl⟩
instance : Fld Try.prog 89 3 3 82 := ⟨st88, st88[3]!, by kernel_rfl, by kernel_rfl, by kernel_rfl, by kernel_rfl⟩
instance : Fld Try.prog 89 4 4 5 := ⟨st88, st88[4]!, by kernel_rfl, by kernel_rfl, by kernel_rfl, by kernel_rfl⟩
instance : Fld Try.prog 89 5 5 5 := ⟨st88, st88[5]!, by kernel_rfl, by kernel_rfl, by kernel_rfl, by kernel_rfl⟩
instance : Fld Try.prog 89 6 6 83 := ⟨st88, st88[6]!, by kernel_rfl, by kernel_rfl, by kernel_rfl, by kernel_rfl⟩
instance : Fld Try.prog 89 7 7 84 := ⟨st88, st88[7]!, by kernel_rfl, by kernel_rfl, by kernel_rfl, by kernel_rfl⟩
instance : Fld Try.prog 89 8 8 85 := ⟨st88, st88[8]!, by kernel_rfl, by kernel_rfl, by kernel_rfl, by kernel_rfl⟩
instance : Fld Try.prog 89 9 9 86 := ⟨st88, st88[9]!, by kernel_rfl, by kernel_rfl, by kernel_rfl, by kernel_rfl⟩
instance : Fld Try.prog 89 10 10 87 := ⟨st88, st88[10]!, by kernel_rfl, by kernel_rfl, by kernel_rfl, by kernel_rfl⟩
instance : Stc Try.prog 89 [(0, 1), (1, 1), (2, 1), (3, 1), (4, 1), (5, 1), (6, 1), (7, 1), (8, 1), (9, 1), (10, 1)] := ⟨st88.toList, by kernel_rfl, by kernel_rfl⟩

instance : Ent Try.prog 3 := ⟨fun _ _ => by kernel_rfl⟩ -- sacristy/sacristylaw03.ShaSums
instance : Ent Try.prog 4 := ⟨fun _ _ => by kernel_rfl⟩ -- sacristy/sacristylaw03.ShaParts
instance : Ent Try.prog 5 := ⟨fun _ _ => by kernel_rfl⟩ -- sacristy/sacristylaw03.ShaCopies
instance : Ent Try.prog 6 := ⟨fun _ _ => by kernel_rfl⟩ -- sacristy/sacristylaw03.ShaFixed
instance : Ent Try.prog 7 := ⟨fun _ _ => by kernel_rfl⟩ -- sacristy/sacristylaw04.MacTags
instance : Ent Try.prog 8 := ⟨fun _ _ => by kernel_rfl⟩ -- sacristy/sacristylaw04.MacKeys
instance : Ent Try.prog 9 := ⟨fun _ _ => by kernel_rfl⟩ -- sacristy/sacristylaw04.MacSames
instance : Ent Try.prog 10 := ⟨fun _ _ => by kernel_rfl⟩ -- sacristy/sacristylaw04.MacExpands
instance : Ent Try.prog 11 := ⟨fun _ _ => by kernel_rfl⟩ -- sacristy/sacristylaw04.MacFronts
instance : Ent Try.prog 12 := ⟨fun _ _ => by kernel_rfl⟩ -- sacristy/sacristylaw04.MacDerives
instance : Ent Try.prog 13 := ⟨fun _ _ => by kernel_rfl⟩ -- sacristy/sacristylaw03.lives
instance : Ent Try.prog 14 := ⟨fun _ _ => by kernel_rfl⟩ -- sacristy/sha.Sum
instance : Ent Try.prog 15 := ⟨fun _ _ => by kernel_rfl⟩ -- sacristy/sacristyref03.Sum
instance : Ent Try.prog 16 := ⟨fun _ _ => by kernel_rfl⟩ -- sacristy/sha.New
instance : Ent Try.prog 17 := ⟨fun _ _ => by kernel_rfl⟩ -- (*sacristy/sha.Hash).Add
instance : Ent Try.prog 18 := ⟨fun _ _ => by kernel_rfl⟩ -- (*sacristy/sha.Hash).Sum
instance : Ent Try.prog 19 := ⟨fun _ _ => by kernel_rfl⟩ -- (*sacristy/sha.Hash).Copy
instance : Ent Try.prog 20 := ⟨fun _ _ => by kernel_rfl⟩ -- sacristy/sacristyref03.Table
instance : Ent Try.prog 21 := ⟨fun _ _ => by kernel_rfl⟩ -- sacristy/sacristyref03.Constants
instance : Ent Try.prog 22 := ⟨fun _ _ => by kernel_rfl⟩ -- sacristy/sacristyref03.First
instance : Ent Try.prog 23 := ⟨fun _ _ => by kernel_rfl⟩ -- sacristy/sacristylaw04.lives
instance : Ent Try.prog 24 := ⟨fun _ _ => by kernel_rfl⟩ -- sacristy/sacristylaw04.few
instance : Ent Try.prog 25 := ⟨fun _ _ => by kernel_rfl⟩ -- sacristy/mac.Tag
instance : Ent Try.prog 26 := ⟨fun _ _ => by kernel_rfl⟩ -- sacristy/sacristyref04.Tag
instance : Ent Try.prog 27 := ⟨fun _ _ => by kernel_rfl⟩ -- sacristy/sacristyref04.Join
instance : Ent Try.prog 28 := ⟨fun _ _ => by kernel_rfl⟩ -- sacristy/mac.Same
instance : Ent Try.prog 29 := ⟨fun _ _ => by kernel_rfl⟩ -- sacristy/mac.Expand
instance : Ent Try.prog 30 := ⟨fun _ _ => by kernel_rfl⟩ -- sacristy/sacristyref04.Asked
instance : Ent Try.prog 31 := ⟨fun _ _ => by kernel_rfl⟩ -- sacristy/sacristyref04.Expand
instance : Ent Try.prog 32 := ⟨fun _ _ => by kernel_rfl⟩ -- sacristy/mac.Derive
instance : Ent Try.prog 33 := ⟨fun _ _ => by kernel_rfl⟩ -- sacristy/sacristyref04.Derive
instance : Ent Try.prog 34 := ⟨fun _ _ => by kernel_rfl⟩ -- sacristy/mac.Extract
instance : Ent Try.prog 35 := ⟨fun _ _ => by kernel_rfl⟩ -- sacristy/sacristyref03.block
instance : Ent Try.prog 36 := ⟨fun _ _ => by kernel_rfl⟩ -- sacristy/sha.first
instance : Ent Try.prog 37 := ⟨fun _ _ => by kernel_rfl⟩ -- (*sacristy/sha.state).block
instance : Ent Try.prog 38 := ⟨fun _ _ => by kernel_rfl⟩ -- sacristy/sacristyref03.root
instance : Ent Try.prog 39 := ⟨fun _ _ => by kernel_rfl⟩ -- sacristy/sacristyref03.prime
instance : Ent Try.prog 40 := ⟨fun _ _ => by kernel_rfl⟩ -- sacristy/mac.pad
instance : Ent Try.prog 41 := ⟨fun _ _ => by kernel_rfl⟩ -- sacristy/sacristyref03.turn
instance : Ent Try.prog 42 := ⟨fun _ _ => by kernel_rfl⟩ -- math/bits.RotateLeft32
instance : Ent Try.prog 43 := ⟨fun _ _ => by kernel_rfl⟩ -- sacristy/sha.constants
instance : Ent Try.prog 44 := ⟨fun _ _ => by kernel_rfl⟩ -- sacristy/sacristyref03.fits
instance : Ent Try.prog 45 := ⟨fun _ _ => by kernel_rfl⟩ -- sacristy/sacristyref03.times
end Go.Proofs.Ytbkmfoelaapkaaa
