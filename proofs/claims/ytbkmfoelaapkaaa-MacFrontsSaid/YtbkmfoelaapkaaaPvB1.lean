/- Contracts of sha and mac. -/
import Derived.Test.YtbkmfoelaapkaaaPvB
import Derived.Test.YtbkmfoelaapkaaaExpand
namespace Go.Proofs.Ytbkmfoelaapkaaa
open Go Go.RowKit Sha

theorem ssum_ctr (xss : List (List UInt8)) (n : Nat) (hn : xss.length = n) (hn2 : n ≤ 9223372036854775807) (hl : xss.flatten.length ≤ 100000000000) : Ctr Try.prog 14 [.ro false n (xss.map bsl)] (.ro false 32 (pb (sum xss.flatten))) := by
  intro w V vs hV h
  obtain ⟨u, rfl, h1⟩ := rzl1 h
  obtain ⟨A, cap, rfl, _, _, hR⟩ := ros_in h1
  refine (ssum_any xss n cap A hn hn2 hl w hR).mono ?_
  rintro e w' ⟨r', A', c', rfl, hO, hk, _⟩
  exact ⟨_, rfl, hk, own_out' hV hO (by decide)⟩
theorem tag_ctr (key : List UInt8) (xss : List (List UInt8)) (m n : Nat) (hm : key.length = m) (hl : m ≤ 100000000000) (hn : xss.length = n) (hn2 : n ≤ 9223372036854775807) (hl2 : xss.flatten.length ≤ 90000000000) : Ctr Try.prog 25 [.ro false m (pb key), .ro false n (xss.map bsl)] (.ro false 32 (pb (tag key xss.flatten))) := by
  intro w V vs hV h
  obtain ⟨u, v, rfl, h1, h2⟩ := rzl2 h
  obtain ⟨A, cap, rfl, _, _, hA⟩ := ro_in h1
  obtain ⟨B, cap2, rfl, _, _, hB⟩ := ros_in h2
  refine (tag_any key xss A B m cap n cap2 hm hl hn hn2 hl2 w hA hB).mono ?_
  rintro e w' ⟨r', A', c', rfl, hO, hk, _⟩
  exact ⟨_, rfl, hk, own_out' hV hO (by decide)⟩
theorem mexpand_ctr (key info : List UInt8) (lk li n : Nat) (hk : key.length = lk) (hl : lk ≤ 100000) (hi : info.length = li) (hl2 : li ≤ 100000) (hn : n ≤ 8160) : Ctr Try.prog 29 [.ro false lk (pb key), .ro false li (pb info), .int .i64 n] (.tup [.ro false n (pb (expand key info n)), .int .i64 0]) := by
  intro w V vs hV h
  obtain ⟨u, v, q, rfl, h1, h2, h3⟩ := rzl3 h
  obtain ⟨A, cap, rfl, _, _, hA⟩ := ro_in h1
  obtain ⟨B, cap2, rfl, _, _, hB⟩ := ro_in h2
  simp only [Rz] at h3
  subst h3
  refine (mexpand_own key info A B lk cap li cap2 n hk hl hi hl2 hn w hA hB).mono ?_
  rintro e w' ⟨A', rfl, hR, hkp, hf⟩
  refine ⟨_, rfl, hkp, ⟨_, rfl, ?_⟩⟩
  refine ⟨_, _, rfl, ?_, _, _, rfl, rfl, rfl⟩
  refine ro_out hR (length_expand _ _ _) (Nat.le_refl _) (fun e => ?_) (fresh_out hV (w' := w') hf)
  rcases Nat.eq_zero_or_pos n with h0 | h0
  · exact h0
  · obtain ⟨b, o, e2, _⟩ := Rd.addr hR (by rw [length_bv, length_expand]; exact h0)
    rw [e] at e2; cases e2
end Go.Proofs.Ytbkmfoelaapkaaa
