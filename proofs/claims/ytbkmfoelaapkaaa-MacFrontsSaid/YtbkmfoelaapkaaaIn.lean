/- What comes in: a row of bytes as a list. -/
import Derived.Test.YtbkmfoelaapkaaaSum
namespace Go.Proofs.Ytbkmfoelaapkaaa
open Go Go.RowKit Sha

/-- One byte of a slice at a known place. -/
theorem at_byte {w : World} {b o : Nat} {xs : List UInt8} (h : RdB w (some ⟨b, o, none⟩) xs) (j : Nat) (x : UInt8) (hj : j < xs.length) (hx : xs.getD j 0 = x) : w.cell? ⟨b, o + j, none⟩ = some (.int .u8 (x.toNat : Int)) := by
  obtain ⟨b', o', e, hc⟩ := RdB.at_ h hj
  cases e
  rw [hc, hx]
theorem HashAt.lt {w : World} {base g : Nat} {r : Option Nat} {msg : List UInt8} (h : HashAt w base g r msg) : g < w.heap.size := by
  obtain ⟨_, _, A, c, hB, _⟩ := h
  exact hB.lt
theorem cell_spot {w : World} {a : Addr} {v : Value} (h : w.cell? a = some v) : a.spot = none := by
  unfold World.cell? at h
  split at h
  · split at h
    · cases h
    · rename_i h1 h2; cases hs : a.spot with
      | none => rfl
      | some x => rw [hs] at h2; exact absurd rfl h2
  · cases h
/-- A slice of bytes that came in reads as a list of bytes. -/
theorem bytes_in {w : World} {a : Option Addr} {len cap : Nat} {zs : List Int}
    (h : (a = none ∧ len = 0 ∧ cap = 0 ∧ zs = []) ∨ ∃ x, a = some x ∧ len ≤ cap ∧ cap ≤ maxLen ∧ zs.length = cap ∧ (∀ i, i < zs.length → w.cell? (x.add i) = some (.int .u8 (zs.getD i 0))) ∧ ∀ n ∈ zs, (Lit.int .u8 n).wf = true) :
    ∃ bs : List UInt8, bs.length = len ∧ RdB w a bs ∧ len ≤ maxLen := by
  rcases h with ⟨rfl, rfl, rfl, rfl⟩ | ⟨x, rfl, hl, hm, hz, hc, hw⟩
  · exact ⟨[], rfl, .inl rfl, by simp [maxLen]⟩
  · have hr : ∀ n ∈ zs, 0 ≤ n ∧ n ≤ 255 := fun n hn => by
      have := hw n hn
      simp [Lit.wf, IntKind.min, IntKind.max, IntKind.signed, IntKind.bits] at this
      omega
    refine ⟨(zs.take len).map fun n => UInt8.ofNat n.toNat, by simp; omega, ?_, by omega⟩
    rcases Nat.eq_zero_or_pos len with h0 | h0
    · subst h0; exact .inl (by simp [bv])
    · have hs := cell_spot (hc 0 (by omega))
      obtain ⟨b, o, s⟩ := x
      have hs' : s = none := by simpa [Addr.add] using hs
      subst hs'
      refine .inr ⟨b, o, rfl, fun j hj => ?_⟩
      have hj' : j < zs.length ∧ j < len := by simp [bv] at hj; omega
      have h1 := hc j hj'.1
      have h2 : (⟨b, o, none⟩ : Addr).add j = ⟨b, o + j, none⟩ := by unfold Addr.add; split <;> simp_all
      rw [h2] at h1
      obtain ⟨z, hz'⟩ : ∃ z, zs[j]? = some z := ⟨_, List.getElem?_eq_getElem hj'.1⟩
      have hzd : zs.getD j 0 = z := by rw [List.getD_eq_getElem?_getD, hz']; rfl
      have h3 := hr z (List.mem_of_getElem? hz')
      have h4 : (UInt8.ofNat z.toNat).toNat = z.toNat := by rw [UInt8.toNat_ofNat']; omega
      rw [h1, hzd, bv, List.getElem?_map, List.getElem?_map, List.getElem?_take_of_lt hj'.2, hz', Option.map_some, Option.map_some, h4]
      congr 2
      omega
end Go.Proofs.Ytbkmfoelaapkaaa
