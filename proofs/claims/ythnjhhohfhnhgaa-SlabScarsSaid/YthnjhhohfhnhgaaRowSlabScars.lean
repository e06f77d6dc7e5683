/- Proves the given statement about SlabScars: on every input that its row lets in, the Go law answers true and leaves what came in as it was. Conditions: none beyond those of the given statement. -/
import Derived.Test.YthnjhhohfhnhgaaRows
import Derived.Test.YthnjhhohfhnhgaaSlabScars
import Derived.WalkKit
import Derived.ProofKit
import Derived.OpenShut
import Derived.ShutString
import Derived.ChangeOld
import Derived.Below
namespace Go.Proofs.Ythnjhhohfhnhgaa.slabScars
open Go Go.RowKit
open Go.ChangeShapes Go.WideShapes Go.ChangeAt Go.RowKit
open Go.ChangeMaps (open_string shut_string)
set_option linter.unusedVariables false

theorem own : ownKnob Try.prog.godebug = none := by kernel_rfl
theorem laidOut : laidOutB Try.prog = true := by kernel_rfl
set_option maxRecDepth 100000 in
theorem lifted (os : Os) (started : os.Started) (H : Type) (enc : TypeId × Value → H) :
    ReturnsInHanded {} Try.checked os 5 .any (Rows.slabScarsSpec.pre6 enc Try.prog Try.f5 Rows.slabScarsRow.domain false) (Rows.slabScarsSpec.post enc Try.prog Try.f5 false true false false) := by
  refine returnsInHanded_of_change (C := Try.checked) own started (by kernel_rfl) Try.func5
    (ChangeSpec.witness6 (enc := enc) (C := Try.checked) false ⟨#[], #[.int .i64 0, .int .i64 0, .int .u8 0, .int .u8 0, .bool false, .slice none 0 0], []⟩ 8 (by kernel_rfl) (by kernel_rfl) (by kernel_rfl) (by kernel_rfl)) ?_
  intro W base args ds gs before hval0 hW hcnd _
  have hval : ∀ (j : Nat) t v, Try.f5.params[j]? = some t → args[j]? = some v → Value.okWide Try.prog W .any base t v := hval0
  have hW' := hW
  obtain ⟨p, q, hA0, hV, rfl, hfz, hnd⟩ := hW
  have hA : DataW.TrodAll enc Try.prog W 0 (fun _ => true) true [3, 3, 5, 5, 4, 30] args.toList ds p := hA0
  obtain ⟨v0, vs0, d0, ds0, p0, q0, hargs, rfl, rfl, h0, r0⟩ := trodAll_cons hA
  obtain ⟨v1, vs1, d1, ds1, p1, q1, rfl, rfl, rfl, h1, r1⟩ := trodAll_cons r0
  obtain ⟨v2, vs2, d2, ds2, p2, q2, rfl, rfl, rfl, h2, r2⟩ := trodAll_cons r1
  obtain ⟨v3, vs3, d3, ds3, p3, q3, rfl, rfl, rfl, h3, r3⟩ := trodAll_cons r2
  obtain ⟨v4, vs4, d4, ds4, p4, q4, rfl, rfl, rfl, h4, r4⟩ := trodAll_cons r3
  obtain ⟨v5, vs5, d5, ds5, p5, q5, rfl, rfl, rfl, h5, r5⟩ := trodAll_cons r4
  obtain ⟨rfl, rfl, rfl⟩ := trodAll_nil r5
  obtain rfl : args = #[v0, v1, v2, v3, v4, v5] := by cases args; simp_all
  obtain ⟨rfl, rfl⟩ := trodVars_none hV
  have u0 : Try.prog.underlying 3 = some (.int .i64) := Ty.und
  obtain ⟨a0, rfl, rfl, rfl, o0⟩ := open_int u0 (hval 0 3 v0 rfl rfl) h0
  have u1 : Try.prog.underlying 3 = some (.int .i64) := Ty.und
  obtain ⟨a1, rfl, rfl, rfl, o1⟩ := open_int u1 (hval 1 3 v1 rfl rfl) h1
  have u2 : Try.prog.underlying 5 = some (.int .u8) := Ty.und
  have g2 := h2
  obtain ⟨a2, rfl, rfl, rfl, o2⟩ := open_int u2 (hval 2 5 v2 rfl rfl) h2
  obtain ⟨b2, _, e2⟩ := arg_one (x := fun b : UInt8 => .int .u8 (b.toNat : Int)) (in_byte (P := Try.prog) (t := 5)) (fun _ => rfl) rfl g2
  have u3 : Try.prog.underlying 5 = some (.int .u8) := Ty.und
  have g3 := h3
  obtain ⟨a3, rfl, rfl, rfl, o3⟩ := open_int u3 (hval 3 5 v3 rfl rfl) h3
  obtain ⟨b3, _, e3⟩ := arg_one (x := fun b : UInt8 => .int .u8 (b.toNat : Int)) (in_byte (P := Try.prog) (t := 5)) (fun _ => rfl) rfl g3
  have u4 : Try.prog.underlying 4 = some .bool := Ty.und
  obtain ⟨a4, rfl, rfl, rfl⟩ := open_bool u4 (hval 4 4 v4 rfl rfl) h4
  obtain ⟨ad5, len5, cap5, rfl⟩ := okWide_slice (show Try.prog.underlying 30 = some (.slice 5) from Ty.und) (hval 5 30 v5 rfl rfl)
  have k5 := h5
  have lt5 : ∀ x ∈ p5, x.block < W.heap.size := by obtain ⟨m, hm⟩ := k5; exact DataW.trod_lt m _ _ _ hm
  obtain ⟨a5, o5, e5⟩ := arg_one in_bytes (fun _ => rfl) rfl h5
  clear hA0 hval0
  refine (ctr_row (scars_in a0 a1 b2 b3 a4 a5 o5) ⟨_, _, rfl, rfl, _, _, rfl, rfl, _, _, rfl, e2, _, _, rfl, e3, _, _, rfl, rfl, _, _, rfl, e5, rfl⟩).mono fun e W' ⟨he, bel⟩ => ?_
  subst he
  exact ⟨_, rfl, _, _, _, [], _, [], hW', trodAll_mk1 (shut_bool (show Try.prog.underlying 4 = some .bool from Ty.und) _), (trodAll_cons_mk (shut_int u0 o0) (trodAll_cons_mk (shut_int u1 o1) (trodAll_cons_mk (shut_int u2 o2) (trodAll_cons_mk (shut_int u3 o3) (trodAll_cons_mk (shut_bool u4 _) (trodAll_cons_mk (Below.trod laidOut (by kernel_rfl) (of_decide_eq_true (by kernel_rfl)) k5 bel lt5) trodAll_mk0)))))), rfl, bel.frame _, fun h => by cases h⟩

theorem over : Rows.slabScarsRow.holds Try.pinned (OpenSpec.ofChange Rows.slabScarsSpec) :=
  OpenClaim.holds_of_wide 5 Try.f5 rfl rfl rfl rfl rfl rfl rfl ⟨rfl, rfl, rfl, rfl, rfl⟩ rfl rfl rfl rfl rfl (by kernel_rfl) Try.func5 (by kernel_rfl)
    (of_decide_eq_true (by kernel_rfl)) (by unfold Func.isWrapper; first | (rw [if_pos (by decide +kernel)]; kernel_rfl) | (rw [if_neg (by decide +kernel)]; exact ⟨rfl, rfl⟩))
    (fun os started H enc _ => lifted os started H enc)

theorem proved : Rows.SlabScarsSaid := over
#print axioms proved
end Go.Proofs.Ythnjhhohfhnhgaa.slabScars
