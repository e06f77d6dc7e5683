/- What the program's table says of its types, and which functions have a body: instances. Printed by a program of this claim's author. -/
import Derived.Test.YthnjhhohfhnhgaaPvApp
import Derived.Test.YthnjhhohfhnhgaaProg
import Derived.KernelRfl
namespace Go.Proofs.Ythnjhhohfhnhgaa
open Go Go.RowKit

noncomputable def fn1 : TypeDesc := .func (match Try.prog.underlying 1 with | some (.func ps _ _) => ps | _ => #[]) (match Try.prog.underlying 1 with | some (.func _ rs _) => rs | _ => #[]) (match Try.prog.underlying 1 with | some (.func _ _ v) => v | _ => false)
instance : Ty Try.prog 1 (fn1) 1 8 := ⟨by kernel_rfl, by kernel_rfl⟩
instance : TyZ Try.prog 1 (.nilFunc) := ⟨by kernel_rfl⟩
instance : Ty Try.prog 2 (.int .i64) 1 8 := ⟨by kernel_rfl, by kernel_rfl⟩
instance : TyZ Try.prog 2 (.int .i64 0) := ⟨by kernel_rfl⟩
instance : Ty Try.prog 3 (.int .i64) 1 8 := ⟨by kernel_rfl, by kernel_rfl⟩
instance : TyZ Try.prog 3 (.int .i64 0) := ⟨by kernel_rfl⟩
instance : Ty Try.prog 4 (.bool) 1 1 := ⟨by kernel_rfl, by kernel_rfl⟩
instance : TyZ Try.prog 4 (.bool false) := ⟨by kernel_rfl⟩
instance : Ty Try.prog 5 (.int .u8) 1 1 := ⟨by kernel_rfl, by kernel_rfl⟩
instance : TyZ Try.prog 5 (.int .u8 0) := ⟨by kernel_rfl⟩
instance : Ty Try.prog 6 (.int .u8) 1 1 := ⟨by kernel_rfl, by kernel_rfl⟩
instance : TyZ Try.prog 6 (.int .u8 0) := ⟨by kernel_rfl⟩
noncomputable def st7 : Array Field := match Try.prog.underlying 7 with | some (.struct fs) => fs | _ => #[]
instance : Ty Try.prog 7 (.struct st7) 4 24 := ⟨by kernel_rfl, by kernel_rfl⟩
instance : TyZ Try.prog 7 (.agg #[.int .i64 0, .int .i64 0, .bool false, .int .u8 0]) := ⟨by kernel_rfl⟩
instance : Fld Try.prog 7 0 0 2 := ⟨st7, st7[0]!, by kernel_rfl, by kernel_rfl, by kernel_rfl, by kernel_rfl⟩
instance : Fld Try.prog 7 1 1 3 := ⟨st7, st7[1]!, by kernel_rfl, by kernel_rfl, by kernel_rfl, by kernel_rfl⟩
instance : Fld Try.prog 7 2 2 4 := ⟨st7, st7[2]!, by kernel_rfl, by kernel_rfl, by kernel_rfl, by kernel_rfl⟩
instance : Fld Try.prog 7 3 3 6 := ⟨st7, st7[3]!, by kernel_rfl, by kernel_rfl, by kernel_rfl, by kernel_rfl⟩
instance : Stc Try.prog 7 [(0, 1), (1, 1), (2, 1), (3, 1)] := ⟨st7.toList, by kernel_rfl, by kernel_rfl⟩
instance : Ty Try.prog 8 (.struct st7) 4 24 := ⟨by kernel_rfl, by kernel_rfl⟩
instance : TyZ Try.prog 8 (.agg #[.int .i64 0, .int .i64 0, .bool false, .int .u8 0]) := ⟨by kernel_rfl⟩
instance : Fld Try.prog 8 0 0 2 := ⟨st7, st7[0]!, by kernel_rfl, by kernel_rfl, by kernel_rfl, by kernel_rfl⟩
instance : Fld Try.prog 8 1 1 3 := ⟨st7, st7[1]!, by kernel_rfl, by kernel_rfl, by kernel_rfl, by kernel_rfl⟩
instance : Fld Try.prog 8 2 2 4 := ⟨st7, st7[2]!, by kernel_rfl, by kernel_rfl, by kernel_rfl, by kernel_rfl⟩
instance : Fld Try.prog 8 3 3 6 := ⟨st7, st7[3]!, by kernel_rfl, by kernel_rfl, by kernel_rfl, by kernel_rfl⟩
instance : Stc Try.prog 8 [(0, 1), (1, 1), (2, 1), (3, 1)] := ⟨st7.toList, by kernel_rfl, by kernel_rfl⟩
instance : Ty Try.prog 9 (.string) 1 16 := ⟨by kernel_rfl, by kernel_rfl⟩
instance : TyZ Try.prog 9 (.string ⟨#[]⟩) := ⟨by kernel_rfl⟩
instance : Ty Try.prog 10 (.string) 1 16 := ⟨by kernel_rfl, by kernel_rfl⟩
instance : TyZ Try.prog 10 (.string ⟨#[]⟩) := ⟨by kernel_rfl⟩
instance : Ty Try.prog 11 (.string) 1 16 := ⟨by kernel_rfl, by kernel_rfl⟩
instance : TyZ Try.prog 11 (.string ⟨#[]⟩) := ⟨by kernel_rfl⟩
instance : Ty Try.prog 12 (.int .u64) 1 8 := ⟨by kernel_rfl, by kernel_rfl⟩
instance : TyZ Try.prog 12 (.int .u64 0) := ⟨by kernel_rfl⟩
noncomputable def st13 : Array Field := match Try.prog.underlying 13 with | some (.struct fs) => fs | _ => #[]
instance : Ty Try.prog 13 (.struct st13) 2 24 := ⟨by kernel_rfl, by kernel_rfl⟩
instance : TyZ Try.prog 13 (.agg #[.string ⟨#[]⟩, .int .u64 0]) := ⟨by kernel_rfl⟩
instance : Fld Try.prog 13 0 0 9 := ⟨st13, st13[0]!, by kernel_rfl, by kernel_rfl, by kernel_rfl, by kernel_rfl⟩
instance : Fld Try.prog 13 1 1 12 := ⟨st13, st13[1]!, by kernel_rfl, by kernel_rfl, by kernel_rfl, by kernel_rfl⟩
instance : Stc Try.prog 13 [(0, 1), (1, 1)] := ⟨st13.toList, by kernel_rfl, by kernel_rfl⟩
instance : Ty Try.prog 14 (.struct st13) 2 24 := ⟨by kernel_rfl, by kernel_rfl⟩
instance : TyZ Try.prog 14 (.agg #[.string ⟨#[]⟩, .int .u64 0]) := ⟨by kernel_rfl⟩
instance : Fld Try.prog 14 0 0 9 := ⟨st13, st13[0]!, by kernel_rfl, by kernel_rfl, by kernel_rfl, by kernel_rfl⟩
instance : Fld Try.prog 14 1 1 12 := ⟨st13, st13[1]!, by kernel_rfl, by kernel_rfl, by kernel_rfl, by kernel_rfl⟩
instance : Stc Try.prog 14 [(0, 1), (1, 1)] := ⟨st13.toList, by kernel_rfl, by kernel_rfl⟩
instance : Ty Try.prog 15 (.pointer 132) 1 8 := ⟨by kernel_rfl, by kernel_rfl⟩
instance : TyZ Try.prog 15 (.pointer none) := ⟨by kernel_rfl⟩
instance : Ty Try.prog 16 (.pointer 135) 1 8 := ⟨by kernel_rfl, by kernel_rfl⟩
instance : TyZ Try.prog 16 (.pointer none) := ⟨by kernel_rfl⟩
instance : Ty Try.prog 17 (.pointer 143) 1 8 := ⟨by kernel_rfl, by kernel_rfl⟩
instance : TyZ Try.prog 17 (.pointer none) := ⟨by kernel_rfl⟩
noncomputable def st18 : Array Field := match Try.prog.underlying 18 with | some (.struct fs) => fs | _ => #[]
instance : Ty Try.prog 18 (.struct st18) 1 8 := ⟨by kernel_rfl, by kernel_rfl⟩
instance : TyZ Try.prog 18 (.agg #[.pointer none]) := ⟨by kernel_rfl⟩
instance : Fld Try.prog 18 0 0 17 := ⟨st18, st18[0]!, by kernel_rfl, by kernel_rfl, by kernel_rfl, by kernel_rfl⟩
instance : Stc Try.prog 18 [(0, 1)] := ⟨st18.toList, by kernel_rfl, by kernel_rfl⟩
instance : Ty Try.prog 19 (.struct st18) 1 8 := ⟨by kernel_rfl, by kernel_rfl⟩
instance : TyZ Try.prog 19 (.agg #[.pointer none]) := ⟨by kernel_rfl⟩
instance : Fld Try.prog 19 0 0 17 := ⟨st18, st18[0]!, by kernel_rfl, by kernel_rfl, by kernel_rfl, by kernel_rfl⟩
instance : Stc Try.prog 19 [(0, 1)] := ⟨st18.toList, by kernel_rfl, by kernel_rfl⟩
instance : Ty Try.prog 21 (.int .i32) 1 4 := ⟨by kernel_rfl, by kernel_rfl⟩
instance : TyZ Try.prog 21 (.int .i32 0) := ⟨by kernel_rfl⟩
instance : Ty Try.prog 22 (.slice 35) 1 24 := ⟨by kernel_rfl, by kernel_rfl⟩
instance : TyZ Try.prog 22 (.slice none 0 0) := ⟨by kernel_rfl⟩
instance : Ty Try.prog 23 (.pointer 77) 1 8 := ⟨by kernel_rfl, by kernel_rfl⟩
instance : TyZ Try.prog 23 (.pointer none) := ⟨by kernel_rfl⟩
noncomputable def fn24 : TypeDesc := .func (match Try.prog.underlying 24 with | some (.func ps _ _) => ps | _ => #[]) (match Try.prog.underlying 24 with | some (.func _ rs _) => rs | _ => #[]) (match Try.prog.underlying 24 with | some (.func _ _ v) => v | _ => false)
instance : Ty Try.prog 24 (fn24) 1 8 := ⟨by kernel_rfl, by kernel_rfl⟩
instance : TyZ Try.prog 24 (.nilFunc) := ⟨by kernel_rfl⟩
noncomputable def fn25 : TypeDesc := .func (match Try.prog.underlying 25 with | some (.func ps _ _) => ps | _ => #[]) (match Try.prog.underlying 25 with | some (.func _ rs _) => rs | _ => #[]) (match Try.prog.underlying 25 with | some (.func _ _ v) => v | _ => false)
instance : Ty Try.prog 25 (fn25) 1 8 := ⟨by kernel_rfl, by kernel_rfl⟩
instance : TyZ Try.prog 25 (.nilFunc) := ⟨by kernel_rfl⟩
noncomputable def fn26 : TypeDesc := .func (match Try.prog.underlying 26 with | some (.func ps _ _) => ps | _ => #[]) (match Try.prog.underlying 26 with | some (.func _ rs _) => rs | _ => #[]) (match Try.prog.underlying 26 with | some (.func _ _ v) => v | _ => false)
instance : Ty Try.prog 26 (fn26) 1 8 := ⟨by kernel_rfl, by kernel_rfl⟩
instance : TyZ Try.prog 26 (.nilFunc) := ⟨by kernel_rfl⟩
instance : Ty Try.prog 27 (.int .u64) 1 8 := ⟨by kernel_rfl, by kernel_rfl⟩
instance : TyZ Try.prog 27 (.int .u64 0) := ⟨by kernel_rfl⟩
instance : Ty Try.prog 28 (.int .i64) 1 8 := ⟨by kernel_rfl, by kernel_rfl⟩
instance : TyZ Try.prog 28 (.int .i64 0) := ⟨by kernel_rfl⟩
noncomputable def fn29 : TypeDesc := .func (match Try.prog.underlying 29 with | some (.func ps _ _) => ps | _ => #[]) (match Try.prog.underlying 29 with | some (.func _ rs _) => rs | _ => #[]) (match Try.prog.underlying 29 with | some (.func _ _ v) => v | _ => false)
instance : Ty Try.prog 29 (fn29) 1 8 := ⟨by kernel_rfl, by kernel_rfl⟩
instance : TyZ Try.prog 29 (.nilFunc) := ⟨by kernel_rfl⟩
instance : Ty Try.prog 30 (.slice 5) 1 24 := ⟨by kernel_rfl, by kernel_rfl⟩
instance : TyZ Try.prog 30 (.slice none 0 0) := ⟨by kernel_rfl⟩
noncomputable def fn31 : TypeDesc := .func (match Try.prog.underlying 31 with | some (.func ps _ _) => ps | _ => #[]) (match Try.prog.underlying 31 with | some (.func _ rs _) => rs | _ => #[]) (match Try.prog.underlying 31 with | some (.func _ _ v) => v | _ => false)
instance : Ty Try.prog 31 (fn31) 1 8 := ⟨by kernel_rfl, by kernel_rfl⟩
instance : TyZ Try.prog 31 (.nilFunc) := ⟨by kernel_rfl⟩
noncomputable def fn32 : TypeDesc := .func (match Try.prog.underlying 32 with | some (.func ps _ _) => ps | _ => #[]) (match Try.prog.underlying 32 with | some (.func _ rs _) => rs | _ => #[]) (match Try.prog.underlying 32 with | some (.func _ _ v) => v | _ => false)
instance : Ty Try.prog 32 (fn32) 1 8 := ⟨by kernel_rfl, by kernel_rfl⟩
instance : TyZ Try.prog 32 (.nilFunc) := ⟨by kernel_rfl⟩
instance : Ty Try.prog 33 (.slice 45) 1 24 := ⟨by kernel_rfl, by kernel_rfl⟩
instance : TyZ Try.prog 33 (.slice none 0 0) := ⟨by kernel_rfl⟩
noncomputable def st34 : Array Field := match Try.prog.underlying 34 with | some (.struct fs) => fs | _ => #[]
instance : Ty Try.prog 34 (.struct st34) 5 56 := ⟨by kernel_rfl, by kernel_rfl⟩
instance : TyZ Try.prog 34 (.agg #[.int .i64 0, .int .i64 0, .int .i64 0, .int .u8 0, .slice none 0 0]) := ⟨by kernel_rfl⟩
instance : Fld Try.prog 34 0 0 3 := ⟨st34, st34[0]!, by kernel_rfl, by kernel_rfl, by kernel_rfl, by kernel_rfl⟩
instance : Fld Try.prog 34 1 1 3 := ⟨st34, st34[1]!, by kernel_rfl, by kernel_rfl, by kernel_rfl, by kernel_rfl⟩
instance : Fld Try.prog 34 2 2 3 := ⟨st34, st34[2]!, by kernel_rfl, by kernel_rfl, by kernel_rfl, by kernel_rfl⟩
instance : Fld Try.prog 34 3 3 5 := ⟨st34, st34[3]!, by kernel_rfl, by kernel_rfl, by kernel_rfl, by kernel_rfl⟩
instance : Fld Try.prog 34 4 4 33 := ⟨st34, st34[4]!, by kernel_rfl, by kernel_rfl, by kernel_rfl, by kernel_rfl⟩
instance : Stc Try.prog 34 [(0, 1), (1, 1), (2, 1), (3, 1), (4, 1)] := ⟨st34.toList, by kernel_rfl, by kernel_rfl⟩
instance : Ty Try.prog 35 (.struct st34) 5 56 := ⟨by kernel_rfl, by kernel_rfl⟩
instance : TyZ Try.prog 35 (.agg #[.int .i64 0, .int .i64 0, .int .i64 0, .int .u8 0, .slice none 0 0]) := ⟨by kernel_rfl⟩
instance : Fld Try.prog 35 0 0 3 := ⟨st34, st34[0]!, by kernel_rfl, by kernel_rfl, by kernel_rfl, by kernel_rfl⟩
instance : Fld Try.prog 35 1 1 3 := ⟨st34, st34[1]!, by kernel_rfl, by kernel_rfl, by kernel_rfl, by kernel_rfl⟩
instance : Fld Try.prog 35 2 2 3 := ⟨st34, st34[2]!, by kernel_rfl, by kernel_rfl, by kernel_rfl, by kernel_rfl⟩
instance : Fld Try.prog 35 3 3 5 := ⟨st34, st34[3]!, by kernel_rfl, by kernel_rfl, by kernel_rfl, by kernel_rfl⟩
instance : Fld Try.prog 35 4 4 33 := ⟨st34, st34[4]!, by kernel_rfl, by kernel_rfl, by kernel_rfl, by kernel_rfl⟩
instance : Stc Try.prog 35 [(0, 1), (1, 1), (2, 1), (3, 1), (4, 1)] := ⟨st34.toList, by kernel_rfl, by kernel_rfl⟩
noncomputable def fn36 : TypeDesc := .func (match Try.prog.underlying 36 with | some (.func ps _ _) => ps | _ => #[]) (match Try.prog.underlying 36 with | some (.func _ rs _) => rs | _ => #[]) (match Try.prog.underlying 36 with | some (.func _ _ v) => v | _ => false)
instance : Ty Try.prog 36 (fn36) 1 8 := ⟨by kernel_rfl, by kernel_rfl⟩
instance : TyZ Try.prog 36 (.nilFunc) := ⟨by kernel_rfl⟩
noncomputable def fn37 : TypeDesc := .func (match Try.prog.underlying 37 with | some (.func ps _ _) => ps | _ => #[]) (match Try.prog.underlying 37 with | some (.func _ rs _) => rs | _ => #[]) (match Try.prog.underlying 37 with | some (.func _ _ v) => v | _ => false)
instance : Ty Try.prog 37 (fn37) 1 8 := ⟨by kernel_rfl, by kernel_rfl⟩
instance : TyZ Try.prog 37 (.nilFunc) := ⟨by kernel_rfl⟩
noncomputable def fn39 : TypeDesc := .func (match Try.prog.underlying 39 with | some (.func ps _ _) => ps | _ => #[]) (match Try.prog.underlying 39 with | some (.func _ rs _) => rs | _ => #[]) (match Try.prog.underlying 39 with | some (.func _ _ v) => v | _ => false)
instance : Ty Try.prog 39 (fn39) 1 8 := ⟨by kernel_rfl, by kernel_rfl⟩
instance : TyZ Try.prog 39 (.nilFunc) := ⟨by kernel_rfl⟩
noncomputable def fn40 : TypeDesc := .func (match Try.prog.underlying 40 with | some (.func ps _ _) => ps | _ => #[]) (match Try.prog.underlying 40 with | some (.func _ rs _) => rs | _ => #[]) (match Try.prog.underlying 40 with | some (.func _ _ v) => v | _ => false)
instance : Ty Try.prog 40 (fn40) 1 8 := ⟨by kernel_rfl, by kernel_rfl⟩
instance : TyZ Try.prog 40 (.nilFunc) := ⟨by kernel_rfl⟩
noncomputable def fn41 : TypeDesc := .func (match Try.prog.underlying 41 with | some (.func ps _ _) => ps | _ => #[]) (match Try.prog.underlying 41 with | some (.func _ rs _) => rs | _ => #[]) (match Try.prog.underlying 41 with | some (.func _ _ v) => v | _ => false)
instance : Ty Try.prog 41 (fn41) 1 8 := ⟨by kernel_rfl, by kernel_rfl⟩
instance : TyZ Try.prog 41 (.nilFunc) := ⟨by kernel_rfl⟩
noncomputable def fn42 : TypeDesc := .func (match Try.prog.underlying 42 with | some (.func ps _ _) => ps | _ => #[]) (match Try.prog.underlying 42 with | some (.func _ rs _) => rs | _ => #[]) (match Try.prog.underlying 42 with | some (.func _ _ v) => v | _ => false)
instance : Ty Try.prog 42 (fn42) 1 8 := ⟨by kernel_rfl, by kernel_rfl⟩
instance : TyZ Try.prog 42 (.nilFunc) := ⟨by kernel_rfl⟩
noncomputable def fn43 : TypeDesc := .func (match Try.prog.underlying 43 with | some (.func ps _ _) => ps | _ => #[]) (match Try.prog.underlying 43 with | some (.func _ rs _) => rs | _ => #[]) (match Try.prog.underlying 43 with | some (.func _ _ v) => v | _ => false)
instance : Ty Try.prog 43 (fn43) 1 8 := ⟨by kernel_rfl, by kernel_rfl⟩
instance : TyZ Try.prog 43 (.nilFunc) := ⟨by kernel_rfl⟩
noncomputable def st44 : Array Field := match Try.prog.underlying 44 with | some (.struct fs) => fs | _ => #[]
instance : Ty Try.prog 44 (.struct st44) 2 32 := ⟨by kernel_rfl, by kernel_rfl⟩
instance : TyZ Try.prog 44 (.agg #[.int .i64 0, .slice none 0 0]) := ⟨by kernel_rfl⟩
instance : Fld Try.prog 44 0 0 3 := ⟨st44, st44[0]!, by kernel_rfl, by kernel_rfl, by kernel_rfl, by kernel_rfl⟩
instance : Fld Try.prog 44 1 1 30 := ⟨st44, st44[1]!, by kernel_rfl, by kernel_rfl, by kernel_rfl, by kernel_rfl⟩
instance : Stc Try.prog 44 [(0, 1), (1, 1)] := ⟨st44.toList, by kernel_rfl, by kernel_rfl⟩
instance : Ty Try.prog 45 (.struct st44) 2 32 := ⟨by kernel_rfl, by kernel_rfl⟩
instance : TyZ Try.prog 45 (.agg #[.int .i64 0, .slice none 0 0]) := ⟨by kernel_rfl⟩
instance : Fld Try.prog 45 0 0 3 := ⟨st44, st44[0]!, by kernel_rfl, by kernel_rfl, by kernel_rfl, by kernel_rfl⟩
instance : Fld Try.prog 45 1 1 30 := ⟨st44, st44[1]!, by kernel_rfl, by kernel_rfl, by kernel_rfl, by kernel_rfl⟩
instance : Stc Try.prog 45 [(0, 1), (1, 1)] := ⟨st44.toList, by kernel_rfl, by kernel_rfl⟩
instance : Ty Try.prog 46 (.slice 3) 1 24 := ⟨by kernel_rfl, by kernel_rfl⟩
instance : TyZ Try.prog 46 (.slice none 0 0) := ⟨by kernel_rfl⟩
noncomputable def fn47 : TypeDesc := .func (match Try.prog.underlying 47 with | some (.func ps _ _) => ps | _ => #[]) (match Try.prog.underlying 47 with | some (.func _ rs _) => rs | _ => #[]) (match Try.prog.underlying 47 with | some (.func _ _ v) => v | _ => false)
instance : Ty Try.prog 47 (fn47) 1 8 := ⟨by kernel_rfl, by kernel_rfl⟩
instance : TyZ Try.prog 47 (.nilFunc) := ⟨by kernel_rfl⟩
noncomputable def fn48 : TypeDesc := .func (match Try.prog.underlying 48 with | some (.func ps _ _) => ps | _ => #[]) (match Try.prog.underlying 48 with | some (.func _ rs _) => rs | _ => #[]) (match Try.prog.underlying 48 with | some (.func _ _ v) => v | _ => false)
instance : Ty Try.prog 48 (fn48) 1 8 := ⟨by kernel_rfl, by kernel_rfl⟩
instance : TyZ Try.prog 48 (.nilFunc) := ⟨by kernel_rfl⟩
noncomputable def fn49 : TypeDesc := .func (match Try.prog.underlying 49 with | some (.func ps _ _) => ps | _ => #[]) (match Try.prog.underlying 49 with | some (.func _ rs _) => rs | _ => #[]) (match Try.prog.underlying 49 with | some (.func _ _ v) => v | _ => false)
instance : Ty Try.prog 49 (fn49) 1 8 := ⟨by kernel_rfl, by kernel_rfl⟩
instance : TyZ Try.prog 49 (.nilFunc) := ⟨by kernel_rfl⟩
instance : Ty Try.prog 50 (.pointer 58) 1 8 := ⟨by kernel_rfl, by kernel_rfl⟩
instance : TyZ Try.prog 50 (.pointer none) := ⟨by kernel_rfl⟩
noncomputable def fn51 : TypeDesc := .func (match Try.prog.underlying 51 with | some (.func ps _ _) => ps | _ => #[]) (match Try.prog.underlying 51 with | some (.func _ rs _) => rs | _ => #[]) (match Try.prog.underlying 51 with | some (.func _ _ v) => v | _ => false)
instance : Ty Try.prog 51 (fn51) 1 8 := ⟨by kernel_rfl, by kernel_rfl⟩
instance : TyZ Try.prog 51 (.nilFunc) := ⟨by kernel_rfl⟩
noncomputable def fn52 : TypeDesc := .func (match Try.prog.underlying 52 with | some (.func ps _ _) => ps | _ => #[]) (match Try.prog.underlying 52 with | some (.func _ rs _) => rs | _ => #[]) (match Try.prog.underlying 52 with | some (.func _ _ v) => v | _ => false)
instance : Ty Try.prog 52 (fn52) 1 8 := ⟨by kernel_rfl, by kernel_rfl⟩
instance : TyZ Try.prog 52 (.nilFunc) := ⟨by kernel_rfl⟩
instance : Ty Try.prog 53 (.slice 92) 1 24 := ⟨by kernel_rfl, by kernel_rfl⟩
instance : TyZ Try.prog 53 (.slice none 0 0) := ⟨by kernel_rfl⟩
noncomputable def fn54 : TypeDesc := .func (match Try.prog.underlying 54 with | some (.func ps _ _) => ps | _ => #[]) (match Try.prog.underlying 54 with | some (.func _ rs _) => rs | _ => #[]) (match Try.prog.underlying 54 with | some (.func _ _ v) => v | _ => false)
instance : Ty Try.prog 54 (fn54) 1 8 := ⟨by kernel_rfl, by kernel_rfl⟩
instance : TyZ Try.prog 54 (.nilFunc) := ⟨by kernel_rfl⟩
instance : Ty Try.prog 55 (.slice 87) 1 24 := ⟨by kernel_rfl, by kernel_rfl⟩
instance : TyZ Try.prog 55 (.slice none 0 0) := ⟨by kernel_rfl⟩
instance : Ty Try.prog 56 (.slice 89) 1 24 := ⟨by kernel_rfl, by kernel_rfl⟩
instance : TyZ Try.prog 56 (.slice none 0 0) := ⟨by kernel_rfl⟩
noncomputable def st57 : Array Field := match Try.prog.underlying 57 with | some (.struct fs) => fs | _ => #[]
instance : Ty Try.prog 57 (.struct st57) 4 64 := ⟨by kernel_rfl, by kernel_rfl⟩
instance : TyZ Try.prog 57 (.agg #[.slice none 0 0, .slice none 0 0, .int .i64 0, .int .i64 0]) := ⟨by kernel_rfl⟩
instance : Fld Try.prog 57 0 0 55 := ⟨st57, st57[0]!, by kernel_rfl, by kernel_rfl, by kernel_rfl, by kernel_rfl⟩
instance : Fld Try.prog 57 1 1 56 := ⟨st57, st57[1]!, by kernel_rfl, by kernel_rfl, by kernel_rfl, by kernel_rfl⟩
instance : Fld Try.prog 57 2 2 3 := ⟨st57, st57[2]!, by kernel_rfl, by kernel_rfl, by kernel_rfl, by kernel_rfl⟩
instance : Fld Try.prog 57 3 3 3 := ⟨st57, st57[3]!, by kernel_rfl, by kernel_rfl, by kernel_rfl, by kernel_rfl⟩
instance : Stc Try.prog 57 [(0, 1), (1, 1), (2, 1), (3, 1)] := ⟨st57.toList, by kernel_rfl, by kernel_rfl⟩
instance : Ty Try.prog 58 (.struct st57) 4 64 := ⟨by kernel_rfl, by kernel_rfl⟩
instance : TyZ Try.prog 58 (.agg #[.slice none 0 0, .slice none 0 0, .int .i64 0, .int .i64 0]) := ⟨by kernel_rfl⟩
instance : Fld Try.prog 58 0 0 55 := ⟨st57, st57[0]!, by kernel_rfl, by kernel_rfl, by kernel_rfl, by kernel_rfl⟩
instance : Fld Try.prog 58 1 1 56 := ⟨st57, st57[1]!, by kernel_rfl, by kernel_rfl, by kernel_rfl, by kernel_rfl⟩
instance : Fld Try.prog 58 2 2 3 := ⟨st57, st57[2]!, by kernel_rfl, by kernel_rfl, by kernel_rfl, by kernel_rfl⟩
instance : Fld Try.prog 58 3 3 3 := ⟨st57, st57[3]!, by kernel_rfl, by kernel_rfl, by kernel_rfl, by kernel_rfl⟩
instance : Stc Try.prog 58 [(0, 1), (1, 1), (2, 1), (3, 1)] := ⟨st57.toList, by kernel_rfl, by kernel_rfl⟩
noncomputable def fn59 : TypeDesc := .func (match Try.prog.underlying 59 with | some (.func ps _ _) => ps | _ => #[]) (match Try.prog.underlying 59 with | some (.func _ rs _) => rs | _ => #[]) (match Try.prog.underlying 59 with | some (.func _ _ v) => v | _ => false)
instance : Ty Try.prog 59 (fn59) 1 8 := ⟨by kernel_rfl, by kernel_rfl⟩
instance : TyZ Try.prog 59 (.nilFunc) := ⟨by kernel_rfl⟩
instance : Ty Try.prog 60 (.pointer 96) 1 8 := ⟨by kernel_rfl, by kernel_rfl⟩
instance : TyZ Try.prog 60 (.pointer none) := ⟨by kernel_rfl⟩
noncomputable def fn62 : TypeDesc := .func (match Try.prog.underlying 62 with | some (.func ps _ _) => ps | _ => #[]) (match Try.prog.underlying 62 with | some (.func _ rs _) => rs | _ => #[]) (match Try.prog.underlying 62 with | some (.func _ _ v) => v | _ => false)
instance : Ty Try.prog 62 (fn62) 1 8 := ⟨by kernel_rfl, by kernel_rfl⟩
instance : TyZ Try.prog 62 (.nilFunc) := ⟨by kernel_rfl⟩
noncomputable def fn63 : TypeDesc := .func (match Try.prog.underlying 63 with | some (.func ps _ _) => ps | _ => #[]) (match Try.prog.underlying 63 with | some (.func _ rs _) => rs | _ => #[]) (match Try.prog.underlying 63 with | some (.func _ _ v) => v | _ => false)
instance : Ty Try.prog 63 (fn63) 1 8 := ⟨by kernel_rfl, by kernel_rfl⟩
instance : TyZ Try.prog 63 (.nilFunc) := ⟨by kernel_rfl⟩
instance : Ty Try.prog 64 (.int .u64) 1 8 := ⟨by kernel_rfl, by kernel_rfl⟩
instance : TyZ Try.prog 64 (.int .u64 0) := ⟨by kernel_rfl⟩
noncomputable def fn65 : TypeDesc := .func (match Try.prog.underlying 65 with | some (.func ps _ _) => ps | _ => #[]) (match Try.prog.underlying 65 with | some (.func _ rs _) => rs | _ => #[]) (match Try.prog.underlying 65 with | some (.func _ _ v) => v | _ => false)
instance : Ty Try.prog 65 (fn65) 1 8 := ⟨by kernel_rfl, by kernel_rfl⟩
instance : TyZ Try.prog 65 (.nilFunc) := ⟨by kernel_rfl⟩
noncomputable def fn67 : TypeDesc := .func (match Try.prog.underlying 67 with | some (.func ps _ _) => ps | _ => #[]) (match Try.prog.underlying 67 with | some (.func _ rs _) => rs | _ => #[]) (match Try.prog.underlying 67 with | some (.func _ _ v) => v | _ => false)
instance : Ty Try.prog 67 (fn67) 1 8 := ⟨by kernel_rfl, by kernel_rfl⟩
instance : TyZ Try.prog 67 (.nilFunc) := ⟨by kernel_rfl⟩
noncomputable def fn68 : TypeDesc := .func (match Try.prog.underlying 68 with | some (.func ps _ _) => ps | _ => #[]) (match Try.prog.underlying 68 with | some (.func _ rs _) => rs | _ => #[]) (match Try.prog.underlying 68 with | some (.func _ _ v) => v | _ => false)
instance : Ty Try.prog 68 (fn68) 1 8 := ⟨by kernel_rfl, by kernel_rfl⟩
instance : TyZ Try.prog 68 (.nilFunc) := ⟨by kernel_rfl⟩
instance : Ty Try.prog 69 (.slice 71) 1 24 := ⟨by kernel_rfl, by kernel_rfl⟩
instance : TyZ Try.prog 69 (.slice none 0 0) := ⟨by kernel_rfl⟩
noncomputable def st70 : Array Field := match Try.prog.underlying 70 with | some (.struct fs) => fs | _ => #[]
instance : Ty Try.prog 70 (.struct st70) 4 48 := ⟨by kernel_rfl, by kernel_rfl⟩
instance : TyZ Try.prog 70 (.agg #[.int .i64 0, .int .i64 0, .int .u8 0, .slice none 0 0]) := ⟨by kernel_rfl⟩
instance : Fld Try.prog 70 0 0 3 := ⟨st70, st70[0]!, by kernel_rfl, by kernel_rfl, by kernel_rfl, by kernel_rfl⟩
instance : Fld Try.prog 70 1 1 3 := ⟨st70, st70[1]!, by kernel_rfl, by kernel_rfl, by kernel_rfl, by kernel_rfl⟩
instance : Fld Try.prog 70 2 2 5 := ⟨st70, st70[2]!, by kernel_rfl, by kernel_rfl, by kernel_rfl, by kernel_rfl⟩
instance : Fld Try.prog 70 3 3 33 := ⟨st70, st70[3]!, by kernel_rfl, by kernel_rfl, by kernel_rfl, by kernel_rfl⟩
instance : Stc Try.prog 70 [(0, 1), (1, 1), (2, 1), (3, 1)] := ⟨st70.toList, by kernel_rfl, by kernel_rfl⟩
instance : Ty Try.prog 71 (.struct st70) 4 48 := ⟨by kernel_rfl, by kernel_rfl⟩
instance : TyZ Try.prog 71 (.agg #[.int .i64 0, .int .i64 0, .int .u8 0, .slice none 0 0]) := ⟨by kernel_rfl⟩
instance : Fld Try.prog 71 0 0 3 := ⟨st70, st70[0]!, by kernel_rfl, by kernel_rfl, by kernel_rfl, by kernel_rfl⟩
instance : Fld Try.prog 71 1 1 3 := ⟨st70, st70[1]!, by kernel_rfl, by kernel_rfl, by kernel_rfl, by kernel_rfl⟩
instance : Fld Try.prog 71 2 2 5 := ⟨st70, st70[2]!, by kernel_rfl, by kernel_rfl, by kernel_rfl, by kernel_rfl⟩
instance : Fld Try.prog 71 3 3 33 := ⟨st70, st70[3]!, by kernel_rfl, by kernel_rfl, by kernel_rfl, by kernel_rfl⟩
instance : Stc Try.prog 71 [(0, 1), (1, 1), (2, 1), (3, 1)] := ⟨st70.toList, by kernel_rfl, by kernel_rfl⟩
noncomputable def fn72 : TypeDesc := .func (match Try.prog.underlying 72 with | some (.func ps _ _) => ps | _ => #[]) (match Try.prog.underlying 72 with | some (.func _ rs _) => rs | _ => #[]) (match Try.prog.underlying 72 with | some (.func _ _ v) => v | _ => false)
instance : Ty Try.prog 72 (fn72) 1 8 := ⟨by kernel_rfl, by kernel_rfl⟩
instance : TyZ Try.prog 72 (.nilFunc) := ⟨by kernel_rfl⟩
noncomputable def fn73 : TypeDesc := .func (match Try.prog.underlying 73 with | some (.func ps _ _) => ps | _ => #[]) (match Try.prog.underlying 73 with | some (.func _ rs _) => rs | _ => #[]) (match Try.prog.underlying 73 with | some (.func _ _ v) => v | _ => false)
instance : Ty Try.prog 73 (fn73) 1 8 := ⟨by kernel_rfl, by kernel_rfl⟩
instance : TyZ Try.prog 73 (.nilFunc) := ⟨by kernel_rfl⟩
noncomputable def fn74 : TypeDesc := .func (match Try.prog.underlying 74 with | some (.func ps _ _) => ps | _ => #[]) (match Try.prog.underlying 74 with | some (.func _ rs _) => rs | _ => #[]) (match Try.prog.underlying 74 with | some (.func _ _ v) => v | _ => false)
instance : Ty Try.prog 74 (fn74) 1 8 := ⟨by kernel_rfl, by kernel_rfl⟩
instance : TyZ Try.prog 74 (.nilFunc) := ⟨by kernel_rfl⟩
instance : Ty Try.prog 75 (.slice 81) 1 24 := ⟨by kernel_rfl, by kernel_rfl⟩
instance : TyZ Try.prog 75 (.slice none 0 0) := ⟨by kernel_rfl⟩
noncomputable def st76 : Array Field := match Try.prog.underlying 76 with | some (.struct fs) => fs | _ => #[]
instance : Ty Try.prog 76 (.struct st76) 4 48 := ⟨by kernel_rfl, by kernel_rfl⟩
instance : TyZ Try.prog 76 (.agg #[.slice none 0 0, .bool false, .int .i64 0, .int .i64 0]) := ⟨by kernel_rfl⟩
instance : Fld Try.prog 76 0 0 75 := ⟨st76, st76[0]!, by kernel_rfl, by kernel_rfl, by kernel_rfl, by kernel_rfl⟩
instance : Fld Try.prog 76 1 1 4 := ⟨st76, st76[1]!, by kernel_rfl, by kernel_rfl, by kernel_rfl, by kernel_rfl⟩
instance : Fld Try.prog 76 2 2 3 := ⟨st76, st76[2]!, by kernel_rfl, by kernel_rfl, by kernel_rfl, by kernel_rfl⟩
instance : Fld Try.prog 76 3 3 3 := ⟨st76, st76[3]!, by kernel_rfl, by kernel_rfl, by kernel_rfl, by kernel_rfl⟩
instance : Stc Try.prog 76 [(0, 1), (1, 1), (2, 1), (3, 1)] := ⟨st76.toList, by kernel_rfl, by kernel_rfl⟩
instance : Ty Try.prog 77 (.struct st76) 4 48 := ⟨by kernel_rfl, by kernel_rfl⟩
instance : TyZ Try.prog 77 (.agg #[.slice none 0 0, .bool false, .int .i64 0, .int .i64 0]) := ⟨by kernel_rfl⟩
instance : Fld Try.prog 77 0 0 75 := ⟨st76, st76[0]!, by kernel_rfl, by kernel_rfl, by kernel_rfl, by kernel_rfl⟩
instance : Fld Try.prog 77 1 1 4 := ⟨st76, st76[1]!, by kernel_rfl, by kernel_rfl, by kernel_rfl, by kernel_rfl⟩
instance : Fld Try.prog 77 2 2 3 := ⟨st76, st76[2]!, by kernel_rfl, by kernel_rfl, by kernel_rfl, by kernel_rfl⟩
instance : Fld Try.prog 77 3 3 3 := ⟨st76, st76[3]!, by kernel_rfl, by kernel_rfl, by kernel_rfl, by kernel_rfl⟩
instance : Stc Try.prog 77 [(0, 1), (1, 1), (2, 1), (3, 1)] := ⟨st76.toList, by kernel_rfl, by kernel_rfl⟩
noncomputable def fn78 : TypeDesc := .func (match Try.prog.underlying 78 with | some (.func ps _ _) => ps | _ => #[]) (match Try.prog.underlying 78 with | some (.func _ rs _) => rs | _ => #[]) (match Try.prog.underlying 78 with | some (.func _ _ v) => v | _ => false)
instance : Ty Try.prog 78 (fn78) 1 8 := ⟨by kernel_rfl, by kernel_rfl⟩
instance : TyZ Try.prog 78 (.nilFunc) := ⟨by kernel_rfl⟩
noncomputable def fn79 : TypeDesc := .func (match Try.prog.underlying 79 with | some (.func ps _ _) => ps | _ => #[]) (match Try.prog.underlying 79 with | some (.func _ rs _) => rs | _ => #[]) (match Try.prog.underlying 79 with | some (.func _ _ v) => v | _ => false)
instance : Ty Try.prog 79 (fn79) 1 8 := ⟨by kernel_rfl, by kernel_rfl⟩
instance : TyZ Try.prog 79 (.nilFunc) := ⟨by kernel_rfl⟩
noncomputable def st80 : Array Field := match Try.prog.underlying 80 with | some (.struct fs) => fs | _ => #[]
instance : Ty Try.prog 80 (.struct st80) 2 48 := ⟨by kernel_rfl, by kernel_rfl⟩
instance : TyZ Try.prog 80 (.agg #[.slice none 0 0, .slice none 0 0]) := ⟨by kernel_rfl⟩
instance : Fld Try.prog 80 0 0 30 := ⟨st80, st80[0]!, by kernel_rfl, by kernel_rfl, by kernel_rfl, by kernel_rfl⟩
instance : Fld Try.prog 80 1 1 30 := ⟨st80, st80[1]!, by kernel_rfl, by kernel_rfl, by kernel_rfl, by kernel_rfl⟩
instance : Stc Try.prog 80 [(0, 1), (1, 1)] := ⟨st80.toList, by kernel_rfl, by kernel_rfl⟩
instance : Ty Try.prog 81 (.struct st80) 2 48 := ⟨by kernel_rfl, by kernel_rfl⟩
instance : TyZ Try.prog 81 (.agg #[.slice none 0 0, .slice none 0 0]) := ⟨by kernel_rfl⟩
instance : Fld Try.prog 81 0 0 30 := ⟨st80, st80[0]!, by kernel_rfl, by kernel_rfl, by kernel_rfl, by kernel_rfl⟩
instance : Fld Try.prog 81 1 1 30 := ⟨st80, st80[1]!, by kernel_rfl, by kernel_rfl, by kernel_rfl, by kernel_rfl⟩
instance : Stc Try.prog 81 [(0, 1), (1, 1)] := ⟨st80.toList, by kernel_rfl, by kernel_rfl⟩
instance : Ty Try.prog 82 (.map 3 30) 1 8 := ⟨by kernel_rfl, by kernel_rfl⟩
instance : TyZ Try.prog 82 (.map none) := ⟨by kernel_rfl⟩
noncomputable def fn83 : TypeDesc := .func (match Try.prog.underlying 83 with | some (.func ps _ _) => ps | _ => #[]) (match Try.prog.underlying 83 with | some (.func _ rs _) => rs | _ => #[]) (match Try.prog.underlying 83 with | some (.func _ _ v) => v | _ => false)
instance : Ty Try.prog 83 (fn83) 1 8 := ⟨by kernel_rfl, by kernel_rfl⟩
instance : TyZ Try.prog 83 (.nilFunc) := ⟨by kernel_rfl⟩
instance : Ty Try.prog 84 (fn83) 1 8 := ⟨by kernel_rfl, by kernel_rfl⟩
instance : TyZ Try.prog 84 (.nilFunc) := ⟨by kernel_rfl⟩
noncomputable def fn85 : TypeDesc := .func (match Try.prog.underlying 85 with | some (.func ps _ _) => ps | _ => #[]) (match Try.prog.underlying 85 with | some (.func _ rs _) => rs | _ => #[]) (match Try.prog.underlying 85 with | some (.func _ _ v) => v | _ => false)
instance : Ty Try.prog 85 (fn85) 1 8 := ⟨by kernel_rfl, by kernel_rfl⟩
instance : TyZ Try.prog 85 (.nilFunc) := ⟨by kernel_rfl⟩
noncomputable def fn86 : TypeDesc := .func (match Try.prog.underlying 86 with | some (.func ps _ _) => ps | _ => #[]) (match Try.prog.underlying 86 with | some (.func _ rs _) => rs | _ => #[]) (match Try.prog.underlying 86 with | some (.func _ _ v) => v | _ => false)
instance : Ty Try.prog 86 (fn86) 1 8 := ⟨by kernel_rfl, by kernel_rfl⟩
instance : TyZ Try.prog 86 (.nilFunc) := ⟨by kernel_rfl⟩
instance : Ty Try.prog 87 (.array 64 5) 64 64 := ⟨by kernel_rfl, by kernel_rfl⟩
instance : TyZ Try.prog 87 (.agg (Array.replicate 64 (.int .u8 0))) := ⟨by kernel_rfl⟩
noncomputable def st88 : Array Field := match Try.prog.underlying 88 with | some (.struct fs) => fs | _ => #[]
instance : Ty Try.prog 88 (.struct st88) 65 72 := ⟨by kernel_rfl, by kernel_rfl⟩
instance : TyZ Try.prog 88 (.agg #[.int .i64 0, .int .u8 0, .int .u8 0, .int .u8 0, .int .u8 0, .int .u8 0, .int .u8 0, .int .u8 0, .int .u8 0, .int .u8 0, .int .u8 0, .int .u8 0, .int .u8 0, .int .u8 0, .int .u8 0, .int .u8 0, .int .u8 0, .int .u8 0, .int .u8 0, .int .u8 0, .int .u8 0, .int .u8 0, .int .u8 0, .int .u8 0, .int .u8 0, .int .u8 0, .int .u8 0, .int .u8 0, .int .u8 0, .int .u8 0, .int .u8 0, .int .u8 0, .int .u8 0, .int .u8 0, .int .u8 0, .int .u8 0, .int .u8 0, .int .u8 0, .int .u8 0, .int .u8 0, .int .u8 0, .int .u8 0, .int .u8 0, .int .u8 0, .int .u8 0, .int .u8 0, .int .u8 0, .int .u8 0, .int .u8 0, .int .u8 0, .int .u8 0, .int .u8 0, .int .u8 0, .int .u8 0, .int .u8 0, .int .u8 0, .int .u8 0, .int .u8 0, .int .u8 0, .int .u8 0, .int .u8 0, .int .u8 0, .int .u8 0, .int .u8 0, .int .u8 0]) := ⟨by kernel_rfl⟩
instance : Fld Try.prog 88 0 0 3 := ⟨st88, st88[0]!, by kernel_rfl, by kernel_rfl, by kernel_rfl, by kernel_rfl⟩
instance : Fld Try.prog 88 1 1 87 := ⟨st88, st88[1]!, by kernel_rfl, by kernel_rfl, by kernel_rfl, by kernel_rfl⟩
instance : Stc Try.prog 88 [(0, 1), (1, 64)] := ⟨st88.toList, by kernel_rfl, by kernel_rfl⟩
instance : Ty Try.prog 89 (.struct st88) 65 72 := ⟨by kernel_rfl, by kernel_rfl⟩
instance : TyZ Try.prog 89 (.agg #[.int .i64 0, .int .u8 0, .int .u8 0, .int .u8 0, .int .u8 0, .int .u8 0, .int .u8 0, .int .u8 0, .int .u8 0, .int .u8 0, .int .u8 0, .int .u8 0, .int .u8 0, .int .u8 0, .int .u8 0, .int .u8 0, .int .u8 0, .int .u8 0, .int .u8 0, .int .u8 0, .int .u8 0, .int .u8 0, .int .u8 0, .int .u8 0, .int .u8 0, .int .u8 0, .int .u8 0, .int .u8 0, .int .u8 0, .int .u8 0, .int .u8 0, .int .u8 0, .int .u8 0, .int .u8 0, .int .u8 0, .int .u8 0, .int .u8 0, .int .u8 0, .int .u8 0, .int .u8 0, .int .u8 0, .int .u8 0, .int .u8 0, .int .u8 0, .int .u8 0, .int .u8 0, .int .u8 0, .int .u8 0, .int .u8 0, .int .u8 0, .int .u8 0, .int .u8 0, .int .u8 0, .int .u8 0, .int .u8 0, .int .u8 0, .int .u8 0, .int .u8 0, .int .u8 0, .int .u8 0, .int .u8 0, .int .u8 0, .int .u8 0, .int .u8 0, .int .u8 0]) := ⟨by kernel_rfl⟩
instance : Fld Try.prog 89 0 0 3 := ⟨st88, st88[0]!, by kernel_rfl, by kernel_rfl, by kernel_rfl, by kernel_rfl⟩
instance : Fld Try.prog 89 1 1 87 := ⟨st88, st88[1]!, by kernel_rfl, by kernel_rfl, by kernel_rfl, by kernel_rfl⟩
instance : Stc Try.prog 89 [(0, 1), (1, 64)] := ⟨st88.toList, by kernel_rfl, by kernel_rfl⟩
noncomputable def fn90 : TypeDesc := .func (match Try.prog.underlying 90 with | some (.func ps _ _) => ps | _ => #[]) (match Try.prog.underlying 90 with | some (.func _ rs _) => rs | _ => #[]) (match Try.prog.underlying 90 with | some (.func _ _ v) => v | _ => false)
instance : Ty Try.prog 90 (fn90) 1 8 := ⟨by kernel_rfl, by kernel_rfl⟩
instance : TyZ Try.prog 90 (.nilFunc) := ⟨by kernel_rfl⟩
noncomputable def st91 : Array Field := match Try.prog.underlying 91 with | some (.struct fs) => fs | _ => #[]
instance : Ty Try.prog 91 (.struct st91) 2 32 := ⟨by kernel_rfl, by kernel_rfl⟩
instance : TyZ Try.prog 91 (.agg #[.int .i64 0, .slice none 0 0]) := ⟨by kernel_rfl⟩
instance : Fld Try.prog 91 0 0 3 := ⟨st91, st91[0]!, by kernel_rfl, by kernel_rfl, by kernel_rfl, by kernel_rfl⟩
instance : Fld Try.prog 91 1 1 30 := ⟨st91, st91[1]!, by kernel_rfl, by kernel_rfl, by kernel_rfl, by kernel_rfl⟩
instance : Stc Try.prog 91 [(0, 1), (1, 1)] := ⟨st91.toList, by kernel_rfl, by kernel_rfl⟩
instance : Ty Try.prog 92 (.struct st91) 2 32 := ⟨by kernel_rfl, by kernel_rfl⟩
instance : TyZ Try.prog 92 (.agg #[.int .i64 0, .slice none 0 0]) := ⟨by kernel_rfl⟩
instance : Fld Try.prog 92 0 0 3 := ⟨st91, st91[0]!, by kernel_rfl, by kernel_rfl, by kernel_rfl, by kernel_rfl⟩
instance : Fld Try.prog 92 1 1 30 := ⟨st91, st91[1]!, by kernel_rfl, by kernel_rfl, by kernel_rfl, by kernel_rfl⟩
instance : Stc Try.prog 92 [(0, 1), (1, 1)] := ⟨st91.toList, by kernel_rfl, by kernel_rfl⟩
noncomputable def fn93 : TypeDesc := .func (match Try.prog.underlying 93 with | some (.func ps _ _) => ps | _ => #[]) (match Try.prog.underlying 93 with | some (.func _ rs _) => rs | _ => #[]) (match Try.prog.underlying 93 with | some (.func _ _ v) => v | _ => false)
instance : Ty Try.prog 93 (fn93) 1 8 := ⟨by kernel_rfl, by kernel_rfl⟩
instance : TyZ Try.prog 93 (.nilFunc) := ⟨by kernel_rfl⟩
noncomputable def fn94 : TypeDesc := .func (match Try.prog.underlying 94 with | some (.func ps _ _) => ps | _ => #[]) (match Try.prog.underlying 94 with | some (.func _ rs _) => rs | _ => #[]) (match Try.prog.underlying 94 with | some (.func _ _ v) => v | _ => false)
instance : Ty Try.prog 94 (fn94) 1 8 := ⟨by kernel_rfl, by kernel_rfl⟩
instance : TyZ Try.prog 94 (.nilFunc) := ⟨by kernel_rfl⟩
noncomputable def st95 : Array Field := match Try.prog.underlying 95 with | some (.struct fs) => fs | _ => #[]
instance : Ty Try.prog 95 (.struct st95) 3 24 := ⟨by kernel_rfl, by kernel_rfl⟩
instance : TyZ Try.prog 95 (.agg #[.pointer none, .int .u64 0, .bool false]) := ⟨by kernel_rfl⟩
instance : Fld Try.prog 95 0 0 23 := ⟨st95, st95[0]!, by kernel_rfl, by kernel_rfl, by kernel_rfl, by kernel_rfl⟩
instance : Fld Try.prog 95 1 1 64 := ⟨st95, st95[1]!, by kernel_rfl, by kernel_rfl, by kernel_rfl, by kernel_rfl⟩
instance : Fld Try.prog 95 2 2 4 := ⟨st95, st95[2]!, by kernel_rfl, by kernel_rfl, by kernel_rfl, by kernel_rfl⟩
instance : Stc Try.prog 95 [(0, 1), (1, 1), (2, 1)] := ⟨st95.toList, by kernel_rfl, by kernel_rfl⟩
instance : Ty Try.prog 96 (.struct st95) 3 24 := ⟨by kernel_rfl, by kernel_rfl⟩
instance : TyZ Try.prog 96 (.agg #[.pointer none, .int .u64 0, .bool false]) := ⟨by kernel_rfl⟩
instance : Fld Try.prog 96 0 0 23 := ⟨st95, st95[0]!, by kernel_rfl, by kernel_rfl, by kernel_rfl, by kernel_rfl⟩
instance : Fld Try.prog 96 1 1 64 := ⟨st95, st95[1]!, by kernel_rfl, by kernel_rfl, by kernel_rfl, by kernel_rfl⟩
instance : Fld Try.prog 96 2 2 4 := ⟨st95, st95[2]!, by kernel_rfl, by kernel_rfl, by kernel_rfl, by kernel_rfl⟩
instance : Stc Try.prog 96 [(0, 1), (1, 1), (2, 1)] := ⟨st95.toList, by kernel_rfl, by kernel_rfl⟩
noncomputable def fn98 : TypeDesc := .func (match Try.prog.underlying 98 with | some (.func ps _ _) => ps | _ => #[]) (match Try.prog.underlying 98 with | some (.func _ rs _) => rs | _ => #[]) (match Try.prog.underlying 98 with | some (.func _ _ v) => v | _ => false)
instance : Ty Try.prog 98 (fn98) 1 8 := ⟨by kernel_rfl, by kernel_rfl⟩
instance : TyZ Try.prog 98 (.nilFunc) := ⟨by kernel_rfl⟩
noncomputable def fn99 : TypeDesc := .func (match Try.prog.underlying 99 with | some (.func ps _ _) => ps | _ => #[]) (match Try.prog.underlying 99 with | some (.func _ rs _) => rs | _ => #[]) (match Try.prog.underlying 99 with | some (.func _ _ v) => v | _ => false)
instance : Ty Try.prog 99 (fn99) 1 8 := ⟨by kernel_rfl, by kernel_rfl⟩
instance : TyZ Try.prog 99 (.nilFunc) := ⟨by kernel_rfl⟩
noncomputable def fn100 : TypeDesc := .func (match Try.prog.underlying 100 with | some (.func ps _ _) => ps | _ => #[]) (match Try.prog.underlying 100 with | some (.func _ rs _) => rs | _ => #[]) (match Try.prog.underlying 100 with | some (.func _ _ v) => v | _ => false)
instance : Ty Try.prog 100 (fn100) 1 8 := ⟨by kernel_rfl, by kernel_rfl⟩
instance : TyZ Try.prog 100 (.nilFunc) := ⟨by kernel_rfl⟩
noncomputable def fn101 : TypeDesc := .func (match Try.prog.underlying 101 with | some (.func ps _ _) => ps | _ => #[]) (match Try.prog.underlying 101 with | some (.func _ rs _) => rs | _ => #[]) (match Try.prog.underlying 101 with | some (.func _ _ v) => v | _ => false)
instance : Ty Try.prog 101 (fn101) 1 8 := ⟨by kernel_rfl, by kernel_rfl⟩
instance : TyZ Try.prog 101 (.nilFunc) := ⟨by kernel_rfl⟩
noncomputable def fn102 : TypeDesc := .func (match Try.prog.underlying 102 with | some (.func ps _ _) => ps | _ => #[]) (match Try.prog.underlying 102 with | some (.func _ rs _) => rs | _ => #[]) (match Try.prog.underlying 102 with | some (.func _ _ v) => v | _ => false)
instance : Ty Try.prog 102 (fn102) 1 8 := ⟨by kernel_rfl, by kernel_rfl⟩
instance : TyZ Try.prog 102 (.nilFunc) := ⟨by kernel_rfl⟩
noncomputable def fn104 : TypeDesc := .func (match Try.prog.underlying 104 with | some (.func ps _ _) => ps | _ => #[]) (match Try.prog.underlying 104 with | some (.func _ rs _) => rs | _ => #[]) (match Try.prog.underlying 104 with | some (.func _ _ v) => v | _ => false)
instance : Ty Try.prog 104 (fn104) 1 8 := ⟨by kernel_rfl, by kernel_rfl⟩
instance : TyZ Try.prog 104 (.nilFunc) := ⟨by kernel_rfl⟩
noncomputable def fn105 : TypeDesc := .func (match Try.prog.underlying 105 with | some (.func ps _ _) => ps | _ => #[]) (match Try.prog.underlying 105 with | some (.func _ rs _) => rs | _ => #[]) (match Try.prog.underlying 105 with | some (.func _ _ v) => v | _ => false)
instance : Ty Try.prog 105 (fn105) 1 8 := ⟨by kernel_rfl, by kernel_rfl⟩
instance : TyZ Try.prog 105 (.nilFunc) := ⟨by kernel_rfl⟩
instance : Ty Try.prog 106 (.slice 32) 1 24 := ⟨by kernel_rfl, by kernel_rfl⟩
instance : TyZ Try.prog 106 (.slice none 0 0) := ⟨by kernel_rfl⟩
noncomputable def fn107 : TypeDesc := .func (match Try.prog.underlying 107 with | some (.func ps _ _) => ps | _ => #[]) (match Try.prog.underlying 107 with | some (.func _ rs _) => rs | _ => #[]) (match Try.prog.underlying 107 with | some (.func _ _ v) => v | _ => false)
instance : Ty Try.prog 107 (fn107) 1 8 := ⟨by kernel_rfl, by kernel_rfl⟩
instance : TyZ Try.prog 107 (.nilFunc) := ⟨by kernel_rfl⟩
noncomputable def fn108 : TypeDesc := .func (match Try.prog.underlying 108 with | some (.func ps _ _) => ps | _ => #[]) (match Try.prog.underlying 108 with | some (.func _ rs _) => rs | _ => #[]) (match Try.prog.underlying 108 with | some (.func _ _ v) => v | _ => false)
instance : Ty Try.prog 108 (fn108) 1 8 := ⟨by kernel_rfl, by kernel_rfl⟩
instance : TyZ Try.prog 108 (.nilFunc) := ⟨by kernel_rfl⟩
instance : Ty Try.prog 109 (fn108) 1 8 := ⟨by kernel_rfl, by kernel_rfl⟩
instance : TyZ Try.prog 109 (.nilFunc) := ⟨by kernel_rfl⟩
noncomputable def fn110 : TypeDesc := .func (match Try.prog.underlying 110 with | some (.func ps _ _) => ps | _ => #[]) (match Try.prog.underlying 110 with | some (.func _ rs _) => rs | _ => #[]) (match Try.prog.underlying 110 with | some (.func _ _ v) => v | _ => false)
instance : Ty Try.prog 110 (fn110) 1 8 := ⟨by kernel_rfl, by kernel_rfl⟩
instance : TyZ Try.prog 110 (.nilFunc) := ⟨by kernel_rfl⟩
noncomputable def fn111 : TypeDesc := .func (match Try.prog.underlying 111 with | some (.func ps _ _) => ps | _ => #[]) (match Try.prog.underlying 111 with | some (.func _ rs _) => rs | _ => #[]) (match Try.prog.underlying 111 with | some (.func _ _ v) => v | _ => false)
instance : Ty Try.prog 111 (fn111) 1 8 := ⟨by kernel_rfl, by kernel_rfl⟩
instance : TyZ Try.prog 111 (.nilFunc) := ⟨by kernel_rfl⟩
noncomputable def fn112 : TypeDesc := .func (match Try.prog.underlying 112 with | some (.func ps _ _) => ps | _ => #[]) (match Try.prog.underlying 112 with | some (.func _ rs _) => rs | _ => #[]) (match Try.prog.underlying 112 with | some (.func _ _ v) => v | _ => false)
instance : Ty Try.prog 112 (fn112) 1 8 := ⟨by kernel_rfl, by kernel_rfl⟩
instance : TyZ Try.prog 112 (.nilFunc) := ⟨by kernel_rfl⟩
noncomputable def fn113 : TypeDesc := .func (match Try.prog.underlying 113 with | some (.func ps _ _) => ps | _ => #[]) (match Try.prog.underlying 113 with | some (.func _ rs _) => rs | _ => #[]) (match Try.prog.underlying 113 with | some (.func _ _ v) => v | _ => false)
instance : Ty Try.prog 113 (fn113) 1 8 := ⟨by kernel_rfl, by kernel_rfl⟩
instance : TyZ Try.prog 113 (.nilFunc) := ⟨by kernel_rfl⟩
instance : Ty Try.prog 114 (.array 32 5) 32 32 := ⟨by kernel_rfl, by kernel_rfl⟩
instance : TyZ Try.prog 114 (.agg (Array.replicate 32 (.int .u8 0))) := ⟨by kernel_rfl⟩
instance : Ty Try.prog 115 (.slice 30) 1 24 := ⟨by kernel_rfl, by kernel_rfl⟩
instance : TyZ Try.prog 115 (.slice none 0 0) := ⟨by kernel_rfl⟩
instance : Ty Try.prog 116 (.pointer 124) 1 8 := ⟨by kernel_rfl, by kernel_rfl⟩
instance : TyZ Try.prog 116 (.pointer none) := ⟨by kernel_rfl⟩
noncomputable def fn117 : TypeDesc := .func (match Try.prog.underlying 117 with | some (.func ps _ _) => ps | _ => #[]) (match Try.prog.underlying 117 with | some (.func _ rs _) => rs | _ => #[]) (match Try.prog.underlying 117 with | some (.func _ _ v) => v | _ => false)
instance : Ty Try.prog 117 (fn117) 1 8 := ⟨by kernel_rfl, by kernel_rfl⟩
instance : TyZ Try.prog 117 (.nilFunc) := ⟨by kernel_rfl⟩
noncomputable def fn118 : TypeDesc := .func (match Try.prog.underlying 118 with | some (.func ps _ _) => ps | _ => #[]) (match Try.prog.underlying 118 with | some (.func _ rs _) => rs | _ => #[]) (match Try.prog.underlying 118 with | some (.func _ _ v) => v | _ => false)
instance : Ty Try.prog 118 (fn118) 1 8 := ⟨by kernel_rfl, by kernel_rfl⟩
instance : TyZ Try.prog 118 (.nilFunc) := ⟨by kernel_rfl⟩
instance : Ty Try.prog 119 (.int .u32) 1 4 := ⟨by kernel_rfl, by kernel_rfl⟩
instance : TyZ Try.prog 119 (.int .u32 0) := ⟨by kernel_rfl⟩
instance : Ty Try.prog 120 (.array 8 119) 8 32 := ⟨by kernel_rfl, by kernel_rfl⟩
instance : TyZ Try.prog 120 (.agg #[.int .u32 0, .int .u32 0, .int .u32 0, .int .u32 0, .int .u32 0, .int .u32 0, .int .u32 0, .int .u32 0]) := ⟨by kernel_rfl⟩
instance : Ty Try.prog 121 (.array 8 119) 8 32 := ⟨by kernel_rfl, by kernel_rfl⟩
instance : TyZ Try.prog 121 (.agg #[.int .u32 0, .int .u32 0, .int .u32 0, .int .u32 0, .int .u32 0, .int .u32 0, .int .u32 0, .int .u32 0]) := ⟨by kernel_rfl⟩
noncomputable def fn122 : TypeDesc := .func (match Try.prog.underlying 122 with | some (.func ps _ _) => ps | _ => #[]) (match Try.prog.underlying 122 with | some (.func _ rs _) => rs | _ => #[]) (match Try.prog.underlying 122 with | some (.func _ _ v) => v | _ => false)
instance : Ty Try.prog 122 (fn122) 1 8 := ⟨by kernel_rfl, by kernel_rfl⟩
instance : TyZ Try.prog 122 (.nilFunc) := ⟨by kernel_rfl⟩
noncomputable def st123 : Array Field := match Try.prog.underlying 123 with | some (.struct fs) => fs | _ => #[]
instance : Ty Try.prog 123 (.struct st123) 10 64 := ⟨by kernel_rfl, by kernel_rfl⟩
instance : TyZ Try.prog 123 (.agg #[.int .u32 0, .int .u32 0, .int .u32 0, .int .u32 0, .int .u32 0, .int .u32 0, .int .u32 0, .int .u32 0, .slice none 0 0, .int .i64 0]) := ⟨by kernel_rfl⟩
instance : Fld Try.prog 123 0 0 121 := ⟨st123, st123[0]!, by kernel_rfl, by kernel_rfl, by kernel_rfl, by kernel_rfl⟩
instance : Fld Try.prog 123 1 8 30 := ⟨st123, st123[1]!, by kernel_rfl, by kernel_rfl, by kernel_rfl, by kernel_rfl⟩
instance : Fld Try.prog 123 2 9 3 := ⟨st123, st123[2]!, by kernel_rfl, by kernel_rfl, by kernel_rfl, by kernel_rfl⟩
instance : Stc Try.prog 123 [(0, 8), (8, 1), (9, 1)] := ⟨st123.toList, by kernel_rfl, by kernel_rfl⟩
instance : Ty Try.prog 124 (.struct st123) 10 64 := ⟨by kernel_rfl, by kernel_rfl⟩
instance : TyZ Try.prog 124 (.agg #[.int .u32 0, .int .u32 0, .int .u32 0, .int .u32 0, .int .u32 0, .int .u32 0, .int .u32 0, .int .u32 0, .slice none 0 0, .int .i64 0]) := ⟨by kernel_rfl⟩
instance : Fld Try.prog 124 0 0 121 := ⟨st123, st123[0]!, by kernel_rfl, by kernel_rfl, by kernel_rfl, by kernel_rfl⟩
instance : Fld Try.prog 124 1 8 30 := ⟨st123, st123[1]!, by kernel_rfl, by kernel_rfl, by kernel_rfl, by kernel_rfl⟩
instance : Fld Try.prog 124 2 9 3 := ⟨st123, st123[2]!, by kernel_rfl, by kernel_rfl, by kernel_rfl, by kernel_rfl⟩
instance : Stc Try.prog 124 [(0, 8), (8, 1), (9, 1)] := ⟨st123.toList, by kernel_rfl, by kernel_rfl⟩
instance : Ty Try.prog 125 (.pointer 121) 1 8 := ⟨by kernel_rfl, by kernel_rfl⟩
instance : TyZ Try.prog 125 (.pointer none) := ⟨by kernel_rfl⟩
instance : Ty Try.prog 126 (.array 64 119) 64 256 := ⟨by kernel_rfl, by kernel_rfl⟩
instance : TyZ Try.prog 126 (.agg (Array.replicate 64 (.int .u32 0))) := ⟨by kernel_rfl⟩
noncomputable def fn127 : TypeDesc := .func (match Try.prog.underlying 127 with | some (.func ps _ _) => ps | _ => #[]) (match Try.prog.underlying 127 with | some (.func _ rs _) => rs | _ => #[]) (match Try.prog.underlying 127 with | some (.func _ _ v) => v | _ => false)
instance : Ty Try.prog 127 (fn127) 1 8 := ⟨by kernel_rfl, by kernel_rfl⟩
instance : TyZ Try.prog 127 (.nilFunc) := ⟨by kernel_rfl⟩
noncomputable def fn128 : TypeDesc := .func (match Try.prog.underlying 128 with | some (.func ps _ _) => ps | _ => #[]) (match Try.prog.underlying 128 with | some (.func _ rs _) => rs | _ => #[]) (match Try.prog.underlying 128 with | some (.func _ _ v) => v | _ => false)
instance : Ty Try.prog 128 (fn128) 1 8 := ⟨by kernel_rfl, by kernel_rfl⟩
instance : TyZ Try.prog 128 (.nilFunc) := ⟨by kernel_rfl⟩
instance : Ty Try.prog 129 (.slice 119) 1 24 := ⟨by kernel_rfl, by kernel_rfl⟩
instance : TyZ Try.prog 129 (.slice none 0 0) := ⟨by kernel_rfl⟩
noncomputable def fn130 : TypeDesc := .func (match Try.prog.underlying 130 with | some (.func ps _ _) => ps | _ => #[]) (match Try.prog.underlying 130 with | some (.func _ rs _) => rs | _ => #[]) (match Try.prog.underlying 130 with | some (.func _ _ v) => v | _ => false)
instance : Ty Try.prog 130 (fn130) 1 8 := ⟨by kernel_rfl, by kernel_rfl⟩
instance : TyZ Try.prog 130 (.nilFunc) := ⟨by kernel_rfl⟩
noncomputable def st131 : Array Field := match Try.prog.underlying 131 with | some (.struct fs) => fs | _ => #[]
instance : Ty Try.prog 131 (.struct st131) 4 40 := ⟨by kernel_rfl, by kernel_rfl⟩
instance : TyZ Try.prog 131 (.agg #[.pointer none, .pointer none, .pointer none, .string ⟨#[]⟩]) := ⟨by kernel_rfl⟩
instance : Fld Try.prog 131 0 0 17 := ⟨st131, st131[0]!, by kernel_rfl, by kernel_rfl, by kernel_rfl, by kernel_rfl⟩
instance : Fld Try.prog 131 1 1 17 := ⟨st131, st131[1]!, by kernel_rfl, by kernel_rfl, by kernel_rfl, by kernel_rfl⟩
instance : Fld Try.prog 131 2 2 17 := ⟨st131, st131[2]!, by kernel_rfl, by kernel_rfl, by kernel_rfl, by kernel_rfl⟩
instance : Fld Try.prog 131 3 3 9 := ⟨st131, st131[3]!, by kernel_rfl, by kernel_rfl, by kernel_rfl, by kernel_rfl⟩
instance : Stc Try.prog 131 [(0, 1), (1, 1), (2, 1), (3, 1)] := ⟨st131.toList, by kernel_rfl, by kernel_rfl⟩
instance : Ty Try.prog 132 (.struct st131) 4 40 := ⟨by kernel_rfl, by kernel_rfl⟩
instance : TyZ Try.prog 132 (.agg #[.pointer none, .pointer none, .pointer none, .string ⟨#[]⟩]) := ⟨by kernel_rfl⟩
instance : Fld Try.prog 132 0 0 17 := ⟨st131, st131[0]!, by kernel_rfl, by kernel_rfl, by kernel_rfl, by kernel_rfl⟩
instance : Fld Try.prog 132 1 1 17 := ⟨st131, st131[1]!, by kernel_rfl, by kernel_rfl, by kernel_rfl, by kernel_rfl⟩
instance : Fld Try.prog 132 2 2 17 := ⟨st131, st131[2]!, by kernel_rfl, by kernel_rfl, by kernel_rfl, by kernel_rfl⟩
instance : Fld Try.prog 132 3 3 9 := ⟨st131, st131[3]!, by kernel_rfl, by kernel_rfl, by kernel_rfl, by kernel_rfl⟩
instance : Stc Try.prog 132 [(0, 1), (1, 1), (2, 1), (3, 1)] := ⟨st131.toList, by kernel_rfl, by kernel_rfl⟩
instance : Ty Try.prog 133 (.array 0 16) 0 0 := ⟨by kernel_rfl, by kernel_rfl⟩
instance : TyZ Try.prog 133 (.agg #[]) := ⟨by kernel_rfl⟩
noncomputable def st134 : Array Field := match Try.prog.underlying 134 with | some (.struct fs) => fs | _ => #[]
instance : Ty Try.prog 134 (.struct st134) 0 0 := ⟨by kernel_rfl, by kernel_rfl⟩
instance : TyZ Try.prog 134 (.agg #[]) := ⟨by kernel_rfl⟩
instance : Fld Try.prog 134 0 0 133 := ⟨st134, st134[0]!, by kernel_rfl, by kernel_rfl, by kernel_rfl, by kernel_rfl⟩
instance : Stc Try.prog 134 [(0, 0)] := ⟨st134.toList, by kernel_rfl, by kernel_rfl⟩
instance : Ty Try.prog 135 (.struct st134) 0 0 := ⟨by kernel_rfl, by kernel_rfl⟩
instance : TyZ Try.prog 135 (.agg #[]) := ⟨by kernel_rfl⟩
instance : Fld Try.prog 135 0 0 133 := ⟨st134, st134[0]!, by kernel_rfl, by kernel_rfl, by kernel_rfl, by kernel_rfl⟩
instance : Stc Try.prog 135 [(0, 0)] := ⟨st134.toList, by kernel_rfl, by kernel_rfl⟩
instance : Ty Try.prog 136 (.int .u8) 1 1 := ⟨by kernel_rfl, by kernel_rfl⟩
instance : TyZ Try.prog 136 (.int .u8 0) := ⟨by kernel_rfl⟩
instance : Ty Try.prog 137 (.int .u8) 1 1 := ⟨by kernel_rfl, by kernel_rfl⟩
instance : TyZ Try.prog 137 (.int .u8 0) := ⟨by kernel_rfl⟩
noncomputable def fn138 : TypeDesc := .func (match Try.prog.underlying 138 with | some (.func ps _ _) => ps | _ => #[]) (match Try.prog.underlying 138 with | some (.func _ rs _) => rs | _ => #[]) (match Try.prog.underlying 138 with | some (.func _ _ v) => v | _ => false)
instance : Ty Try.prog 138 (fn138) 1 8 := ⟨by kernel_rfl, by kernel_rfl⟩
instance : TyZ Try.prog 138 (.nilFunc) := ⟨by kernel_rfl⟩
instance : Ty Try.prog 139 (.pointer 5) 1 8 := ⟨by kernel_rfl, by kernel_rfl⟩
instance : TyZ Try.prog 139 (.pointer none) := ⟨by kernel_rfl⟩
instance : Ty Try.prog 140 (.int .i32) 1 4 := ⟨by kernel_rfl, by kernel_rfl⟩
instance : TyZ Try.prog 140 (.int .i32 0) := ⟨by kernel_rfl⟩
instance : Ty Try.prog 141 (.int .i32) 1 4 := ⟨by kernel_rfl, by kernel_rfl⟩
instance : TyZ Try.prog 141 (.int .i32 0) := ⟨by kernel_rfl⟩
noncomputable def st142 : Array Field := match Try.prog.underlying 142 with | some (.struct fs) => fs | _ => #[]
instance : Ty Try.prog 142 (.struct st142) 11 48 := ⟨by kernel_rfl, by kernel_rfl⟩
instance : TyZ Try.prog 142 (.agg #[.int .u64 0, .int .u64 0, .int .u32 0, .int .u8 0, .int .u8 0, .int .u8 0, .int .u8 0, .nilFunc, .pointer none, .int .i32 0, .int .i32 0]) := ⟨by kernel_rfl⟩
instance : Fld Try.prog 142 0 0 12 := ⟨st142, st142[0]!, by kernel_rfl, by kernel_rfl, by kernel_rfl, by kernel_rfl⟩
instance : Fld Try.prog 142 1 1 12 := ⟨st142, st142[1]!, by kernel_rfl, by kernel_rfl, by kernel_rfl, by kernel_rfl⟩
instance : Fld Try.prog 142 2 2 119 := ⟨st142, st142[2]!, by kernel_rfl, by kernel_rfl, by kernel_rfl, by kernel_rfl⟩
instance : Fld Try.prog 142 3 3 136 := ⟨st142, st142[3]!, by kernel_rfl, by kernel_rfl, by kernel_rfl, by kernel_rfl⟩
instance : Fld Try.prog 142 4 4 5 := ⟨st142, st142[4]!, by kernel_rfl, by kernel_rfl, by kernel_rfl, by kernel_rfl⟩
instance : Fld Try.prog 142 5 5 5 := ⟨st142, st142[5]!, by kernel_rfl, by kernel_rfl, by kernel_rfl, by kernel_rfl⟩
instance : Fld Try.prog 142 6 6 137 := ⟨st142, st142[6]!, by kernel_rfl, by kernel_rfl, by kernel_rfl, by kernel_rfl⟩
instance : Fld Try.prog 142 7 7 138 := ⟨st142, st142[7]!, by kernel_rfl, by kernel_rfl, by kernel_rfl, by kernel_rfl⟩
instance : Fld Try.prog 142 8 8 139 := ⟨st142, st142[8]!, by kernel_rfl, by kernel_rfl, by kernel_rfl, by kernel_rfl⟩
instance : Fld Try.prog 142 9 9 140 := ⟨st142, st142[9]!, by kernel_rfl, by kernel_rfl, by kernel_rfl, by kernel_rfl⟩
instance : Fld Try.prog 142 10 10 141 := ⟨st142, st142[10]!, by kernel_rfl, by kernel_rfl, by kernel_rfl, by kernel_rfl⟩
instance : Stc Try.prog 142 [(0, 1), (1, 1), (2, 1), (3, 1), (4, 1), (5, 1), (6, 1), (7, 1), (8, 1), (9, 1), (10, 1)] := ⟨st142.toList, by kernel_rfl, by kernel_rfl⟩
instance : Ty Try.prog 143 (.struct st142) 11 48 := ⟨by kernel_rfl, by kernel_rfl⟩
instance : TyZ Try.prog 143 (.agg #[.int .u64 0, .int .u64 0, .int .u32 0, .int .u8 0, .int .u8 0, .int .u8 0, .int .u8 0, .nilFunc, .pointer none, .int .i32 0, .int .i32 0]) := ⟨by kernel_rfl⟩
instance : Fld Try.prog 143 0 0 12 := ⟨st142, st142[0]!, by kernel_rfl, by kernel_rfl, by kernel_rfl, by kernel_rfl⟩
instance : Fld Try.prog 143 1 1 12 := ⟨st142, st142[1]!, by kernel_rfl, by kernel_rfl, by kernel_rfl, by kernel_rfl⟩
instance : Fld Try.prog 143 2 2 119 := ⟨st142, st142[2]!, by kernel_rfl, by kernel_rfl, by kernel_rfl, by kernel_rfl⟩
instance : Fld Try.prog 143 3 3 136 := ⟨st142, st142[3]!, by kernel_rfl, by kernel_rfl, by kernel_rfl, by kernel_rfl⟩
instance : Fld Try.prog 143 4 4 5 := ⟨st142, st142[4]!, by kernel_rfl, by kernel_rfl, by kernel_rfl, by kernel_rfl⟩
instance : Fld Try.prog 143 5 5 5 := ⟨st142, st142[5]!, by kernel_rfl, by kernel_rfl, by kernel_rfl, by kernel_rfl⟩
instance : Fld Try.prog 143 6 6 137 := ⟨st142, st142[6]!, by kernel_rfl, by kernel_rfl, by kernel_rfl, by kernel_rfl⟩
instance : Fld Try.prog 143 7 7 138 := ⟨st142, st142[7]!, by kernel_rfl, by kernel_rfl, by kernel_rfl, by kernel_rfl⟩
instance : Fld Try.prog 143 8 8 139 := ⟨st142, st142[8]!, by kernel_rfl, by kernel_rfl, by kernel_rfl, by kernel_rfl⟩
instance : Fld Try.prog 143 9 9 140 := ⟨st142, st142[9]!, by kernel_rfl, by kernel_rfl, by kernel_rfl, by kernel_rfl⟩
instance : Fld Try.prog 143 10 10 141 := ⟨st142, st142[10]!, by kernel_rfl, by kernel_rfl, by kernel_rfl, by kernel_rfl⟩
instance : Stc Try.prog 143 [(0, 1), (1, 1), (2, 1), (3, 1), (4, 1), (5, 1), (6, 1), (7, 1), (8, 1), (9, 1), (10, 1)] := ⟨st142.toList, by kernel_rfl, by kernel_rfl⟩

instance : Ent Try.prog 3 := ⟨fun _ _ => by kernel_rfl⟩ -- sacristy/sacristylaw15.SlabLasts
instance : Ent Try.prog 4 := ⟨fun _ _ => by kernel_rfl⟩ -- sacristy/sacristylaw15.SlabCounts
instance : Ent Try.prog 5 := ⟨fun _ _ => by kernel_rfl⟩ -- sacristy/sacristylaw15.SlabScars
instance : Ent Try.prog 6 := ⟨fun _ _ => by kernel_rfl⟩ -- sacristy/sacristylaw15.SlabPlays
instance : Ent Try.prog 7 := ⟨fun _ _ => by kernel_rfl⟩ -- sacristy/sacristylaw16.StoreRooms
instance : Ent Try.prog 8 := ⟨fun _ _ => by kernel_rfl⟩ -- sacristy/sacristylaw16.StoreKeeps
instance : Ent Try.prog 9 := ⟨fun _ _ => by kernel_rfl⟩ -- sacristy/slab.New
instance : Ent Try.prog 10 := ⟨fun _ _ => by kernel_rfl⟩ -- sacristy/sacristylaw15.lives
instance : Ent Try.prog 11 := ⟨fun _ _ => by kernel_rfl⟩ -- sacristy/sacristylaw15.few
instance : Ent Try.prog 12 := ⟨fun _ _ => by kernel_rfl⟩ -- (*sacristy/slab.Slab).Ink
instance : Ent Try.prog 13 := ⟨fun _ _ => by kernel_rfl⟩ -- sacristy/sacristylaw15.Plain
instance : Ent Try.prog 14 := ⟨fun _ _ => by kernel_rfl⟩ -- (*sacristy/slab.Slab).Burn
instance : Ent Try.prog 15 := ⟨fun _ _ => by kernel_rfl⟩ -- sacristy/sacristylaw15.do
instance : Ent Try.prog 16 := ⟨fun _ _ => by kernel_rfl⟩ -- (*sacristy/slab.Slab).Wake
instance : Ent Try.prog 17 := ⟨fun _ _ => by kernel_rfl⟩ -- (*sacristy/slab.Slab).Face
instance : Ent Try.prog 18 := ⟨fun _ _ => by kernel_rfl⟩ -- (*sacristy/slab.Slab).Supply
instance : Ent Try.prog 19 := ⟨fun _ _ => by kernel_rfl⟩ -- (*sacristy/slab.Slab).Strokes
instance : Ent Try.prog 20 := ⟨fun _ _ => by kernel_rfl⟩ -- (*sacristy/slab.Slab).Out
instance : Ent Try.prog 21 := ⟨fun _ _ => by kernel_rfl⟩ -- (*sacristy/slab.Slab).Inked
instance : Ent Try.prog 22 := ⟨fun _ _ => by kernel_rfl⟩ -- (*sacristy/slab.Slab).Sectors
instance : Ent Try.prog 23 := ⟨fun _ _ => by kernel_rfl⟩ -- (*sacristy/slab.Slab).Twin
instance : Ent Try.prog 24 := ⟨fun _ _ => by kernel_rfl⟩ -- sacristy/sacristyref15.New
instance : Ent Try.prog 25 := ⟨fun _ _ => by kernel_rfl⟩ -- (*sacristy/sacristyref15.Slab).Put
instance : Ent Try.prog 26 := ⟨fun _ _ => by kernel_rfl⟩ -- (*sacristy/sacristyref15.Slab).Face
instance : Ent Try.prog 27 := ⟨fun _ _ => by kernel_rfl⟩ -- (*sacristy/sacristyref15.Slab).Burn
instance : Ent Try.prog 28 := ⟨fun _ _ => by kernel_rfl⟩ -- (*sacristy/sacristyref15.Slab).Set
instance : Ent Try.prog 29 := ⟨fun _ _ => by kernel_rfl⟩ -- (*sacristy/sacristyref15.Slab).Wake
instance : Ent Try.prog 30 := ⟨fun _ _ => by kernel_rfl⟩ -- sacristy/sacristylaw15.Scars
instance : Ent Try.prog 31 := ⟨fun _ _ => by kernel_rfl⟩ -- sacristy/sacristylaw16.lives
instance : Ent Try.prog 32 := ⟨fun _ _ => by kernel_rfl⟩ -- sacristy/sacristylaw16.Made
instance : Ent Try.prog 33 := ⟨fun _ _ => by kernel_rfl⟩ -- (*sacristy/store.Store).Room
instance : Ent Try.prog 34 := ⟨fun _ _ => by kernel_rfl⟩ -- (*sacristy/store.Store).Save
instance : Ent Try.prog 35 := ⟨fun _ _ => by kernel_rfl⟩ -- (*sacristy/store.Store).Number
instance : Ent Try.prog 36 := ⟨fun _ _ => by kernel_rfl⟩ -- sacristy/store.Open
instance : Ent Try.prog 37 := ⟨fun _ _ => by kernel_rfl⟩ -- sacristy/sacristylaw16.few
instance : Ent Try.prog 38 := ⟨fun _ _ => by kernel_rfl⟩ -- sacristy/sacristylaw16.state
instance : Ent Try.prog 39 := ⟨fun _ _ => by kernel_rfl⟩ -- (*sacristy/slab.Slab).look
instance : Ent Try.prog 40 := ⟨fun _ _ => by kernel_rfl⟩ -- (*sacristy/slab.Slab).stroke
instance : Ent Try.prog 41 := ⟨fun _ _ => by kernel_rfl⟩ -- slices.Clone[[]byte,byte]
instance : Ent Try.prog 42 := ⟨fun _ _ => by kernel_rfl⟩ -- maps.Keys[map[int][]byte,int,[]byte]
instance : Ent Try.prog 43 := ⟨fun _ _ => by kernel_rfl⟩ -- slices.Clone[[]sacristy/slab.sector,sacristy/slab.sector]
instance : Ent Try.prog 44 := ⟨fun _ _ => by kernel_rfl⟩ -- (*sacristy/sacristyref15.Slab).asked
instance : Ent Try.prog 45 := ⟨fun _ _ => by kernel_rfl⟩ -- (*sacristy/sacristyref15.Slab).stroke
instance : Ent Try.prog 46 := ⟨fun _ _ => by kernel_rfl⟩ -- (*sacristy/sacristyref15.Slab).inked
instance : Ent Try.prog 47 := ⟨fun _ _ => by kernel_rfl⟩ -- sacristy/store.Format
instance : Ent Try.prog 48 := ⟨fun _ _ => by kernel_rfl⟩ -- sacristy/store.room
instance : Ent Try.prog 49 := ⟨fun _ _ => by kernel_rfl⟩ -- sacristy/store.area
instance : Ent Try.prog 50 := ⟨fun _ _ => by kernel_rfl⟩ -- (*sacristy/store.Store).lower
instance : Ent Try.prog 51 := ⟨fun _ _ => by kernel_rfl⟩ -- sacristy/store.burn
instance : Ent Try.prog 52 := ⟨fun _ _ => by kernel_rfl⟩ -- sacristy/store.whole
instance : Ent Try.prog 53 := ⟨fun _ _ => by kernel_rfl⟩ -- sacristy/store.flag
instance : Ent Try.prog 54 := ⟨fun _ _ => by kernel_rfl⟩ -- sacristy/store.look
instance : Ent Try.prog 55 := ⟨fun _ _ => by kernel_rfl⟩ -- maps.Keys[map[int][]byte,int,[]byte]$1
instance : Ent Try.prog 56 := ⟨fun _ _ => by kernel_rfl⟩ -- sacristy/store.Format$1
instance : Ent Try.prog 57 := ⟨fun _ _ => by kernel_rfl⟩ -- sacristy/store.Format$2
instance : Ent Try.prog 58 := ⟨fun _ _ => by kernel_rfl⟩ -- sacristy/store.Format$3
instance : Ent Try.prog 59 := ⟨fun _ _ => by kernel_rfl⟩ -- sacristy/store.up
instance : Ent Try.prog 60 := ⟨fun _ _ => by kernel_rfl⟩ -- slices.Chunk[[]byte,byte]
instance : Ent Try.prog 61 := ⟨fun _ _ => by kernel_rfl⟩ -- sacristy/store.put
instance : Ent Try.prog 62 := ⟨fun _ _ => by kernel_rfl⟩ -- sacristy/sha.Sum
instance : Ent Try.prog 63 := ⟨fun _ _ => by kernel_rfl⟩ -- sacristy/store.get
instance : Ent Try.prog 64 := ⟨fun _ _ => by kernel_rfl⟩ -- slices.Chunk[[]byte,byte]$1
instance : Ent Try.prog 65 := ⟨fun _ _ => by kernel_rfl⟩ -- sacristy/sha.New
instance : Ent Try.prog 66 := ⟨fun _ _ => by kernel_rfl⟩ -- (*sacristy/sha.Hash).Add
instance : Ent Try.prog 67 := ⟨fun _ _ => by kernel_rfl⟩ -- (*sacristy/sha.Hash).Sum
instance : Ent Try.prog 68 := ⟨fun _ _ => by kernel_rfl⟩ -- sacristy/sha.first
instance : Ent Try.prog 69 := ⟨fun _ _ => by kernel_rfl⟩ -- (*sacristy/sha.state).block
instance : Ent Try.prog 70 := ⟨fun _ _ => by kernel_rfl⟩ -- (*sacristy/sha.Hash).Copy
instance : Ent Try.prog 71 := ⟨fun _ _ => by kernel_rfl⟩ -- math/bits.RotateLeft32
instance : Ent Try.prog 72 := ⟨fun _ _ => by kernel_rfl⟩ -- sacristy/sha.constants
end Go.Proofs.Ythnjhhohfhnhgaa
