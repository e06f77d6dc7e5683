/- Proves the given statement about SlabLasts: on every input that its row lets in, the Go law answers true and leaves what came in as it was. Conditions: none beyond those of the given statement. -/
import Derived.Test.YthnjhhohfhnhgaaRows
import Derived.Test.YthnjhhohfhnhgaaSlabLasts
import Derived.WalkKit
import Derived.ProofKit
import Derived.OpenShut
import Derived.ShutString
import Derived.ChangeOld
import Derived.Below
namespace Go.Proofs.Ythnjhhohfhnhgaa.slabLasts
open Go Go.RowKit
open Go.ChangeShapes Go.WideShapes Go.ChangeAt Go.RowKit
open Go.ChangeMaps (open_string shut_string)
set_option linter.unusedVariables false

theorem own : ownKnob Try.prog.godebug = none := by kernel_rfl
theorem laidOut : laidOutB Try.prog = true := by kernel_rfl
set_option maxRecDepth 100000 in
theorem lifted (os : Os) (started : os.Started) (H : Type) (enc : TypeId × Value → H) :
    ReturnsInHanded {} Try.checked os 3 .any (Rows.slabLastsSpec.pre6 enc Try.prog Try.f3 Rows.slabLastsRow.domain false) (Rows.slabLastsSpec.post enc Try.prog Try.f3 false true false false) := by
  refine returnsInHanded_of_change (C := Try.checked) own started (by kernel_rfl) Try.func3
    (ChangeSpec.witness6 (enc := enc) (C := Try.checked) false ⟨#[], #[.int .i64 0, .int .u8 0, .slice none 0 0], []⟩ 8 (by kernel_rfl) (by kernel_rfl) (by kernel_rfl) (by kernel_rfl)) ?_
  intro W base args ds gs before hval0 hW hcnd _
  have hval : ∀ (j : Nat) t v, Try.f3.params[j]? = some t → args[j]? = some v → Value.okWide Try.prog W .any base t v := hval0
  have hW' := hW
  obtain ⟨p, q, hA0, hV, rfl, hfz, hnd⟩ := hW
  have hA : DataW.TrodAll enc Try.prog W 0 (fun _ => true) true [3, 5, 22] args.toList ds p := hA0
  obtain ⟨v0, vs0, d0, ds0, p0, q0, hargs, rfl, rfl, h0, r0⟩ := trodAll_cons hA
  obtain ⟨v1, vs1, d1, ds1, p1, q1, rfl, rfl, rfl, h1, r1⟩ := trodAll_cons r0
  obtain ⟨v2, vs2, d2, ds2, p2, q2, rfl, rfl, rfl, h2, r2⟩ := trodAll_cons r1
  obtain ⟨rfl, rfl, rfl⟩ := trodAll_nil r2
  obtain rfl : args = #[v0, v1, v2] := by cases args; simp_all
  obtain ⟨rfl, rfl⟩ := trodVars_none hV
  have u0 : Try.prog.underlying 3 = some (.int .i64) := Ty.und
  obtain ⟨a0, rfl, rfl, rfl, o0⟩ := open_int u0 (hval 0 3 v0 rfl rfl) h0
  have u1 : Try.prog.underlying 5 = some (.int .u8) := Ty.und
  have g1 := h1
  obtain ⟨a1, rfl, rfl, rfl, o1⟩ := open_int u1 (hval 1 5 v1 rfl rfl) h1
  obtain ⟨b1, _, e1⟩ := arg_one (x := fun b : UInt8 => .int .u8 (b.toNat : Int)) (in_byte (P := Try.prog) (t := 5)) (fun _ => rfl) rfl g1
  obtain ⟨ad2, len2, cap2, rfl⟩ := okWide_slice (show Try.prog.underlying 22 = some (.slice 35) from Ty.und) (hval 2 22 v2 rfl rfl)
  have k2 := h2
  have lt2 : ∀ x ∈ p2, x.block < W.heap.size := by obtain ⟨m, hm⟩ := k2; exact DataW.trod_lt m _ _ _ hm
  obtain ⟨a2, o2, e2⟩ := arg_one in_deeds (fun _ => rfl) rfl h2
  clear hA0 hval0
  refine (ctr_row (lasts_in a0 b1 a2 o2) ⟨_, _, rfl, rfl, _, _, rfl, e1, _, _, rfl, e2, rfl⟩).mono fun e W' ⟨he, bel⟩ => ?_
  subst he
  exact ⟨_, rfl, _, _, _, [], _, [], hW', trodAll_mk1 (shut_bool (show Try.prog.underlying 4 = some .bool from Ty.und) _), (trodAll_cons_mk (shut_int u0 o0) (trodAll_cons_mk (shut_int u1 o1) (trodAll_cons_mk (Below.trod laidOut (by kernel_rfl) (of_decide_eq_true (by kernel_rfl)) k2 bel lt2) trodAll_mk0))), rfl, bel.frame _, fun h => by cases h⟩

theorem over : Rows.slabLastsRow.holds Try.pinned (OpenSpec.ofChange Rows.slabLastsSpec) :=
  OpenClaim.holds_of_wide 3 Try.f3 rfl rfl rfl rfl rfl rfl rfl ⟨rfl, rfl, rfl, rfl, rfl⟩ rfl rfl rfl rfl rfl (by kernel_rfl) Try.func3 (by kernel_rfl)
    (of_decide_eq_true (by kernel_rfl)) (by unfold Func.isWrapper; first | (rw [if_pos (by decide +kernel)]; kernel_rfl) | (rw [if_neg (by decide +kernel)]; exact ⟨rfl, rfl⟩))
    (fun os started H enc _ => lifted os started H enc)

theorem proved : Rows.SlabLastsSaid := over
#print axioms proved
end Go.Proofs.Ythnjhhohfhnhgaa.slabLasts
