/- sha.Sum: the sum of all parts. -/
import Derived.Test.YtbkmfoelaapkaaaHash
namespace Go.Proofs.Ytbkmfoelaapkaaa
open Go Go.RowKit Sha

/-- A slice of slices of bytes that reads as xss. -/
def RdR (w : World) (A : Option Addr) (xss : List (List UInt8)) : Prop :=
  ∃ vs : List Value, vs.length = xss.length ∧ Rd w A vs ∧ ∀ j, j < xss.length → ∃ B c, vs[j]? = some (.slice B (xss.getD j []).length c) ∧ RdB w B (xss.getD j [])
theorem RdR.kept0 {w w' : World} {A : Option Addr} {xss : List (List UInt8)} (h : RdR w A xss) (hk : Kp0 w w') : RdR w' A xss := by
  obtain ⟨vs, h1, h2, h3⟩ := h
  exact ⟨vs, h1, h2.kept0 hk, fun j hj => let ⟨B, c, e, hb⟩ := h3 j hj; ⟨B, c, e, Rd.kept0 hb hk⟩⟩
theorem RdR.at_ {w : World} {A : Option Addr} {xss : List (List UInt8)} (h : RdR w A xss) {j : Nat} (hj : j < xss.length) :
    ∃ b o B c, A = some ⟨b, o, none⟩ ∧ w.cell? ⟨b, o + j, none⟩ = some (.slice B (xss.getD j []).length c) ∧ RdB w B (xss.getD j []) := by
  obtain ⟨vs, h1, h2, h3⟩ := h
  obtain ⟨B, c, e, hb⟩ := h3 j hj
  obtain ⟨b, o, ea, hc⟩ := h2.at_ e
  exact ⟨b, o, B, c, ea, hc, hb⟩
theorem rdr_new2 {w : World} {A B : Option Addr} {a b : List UInt8} {la lb ca cb : Nat} (ha : a.length = la) (hb : b.length = lb) (ra : RdB w A a) (rb : RdB w B b) (t : TypeId) :
    RdR (w.alloc (.cells #[.slice A la ca, .slice B lb cb] t)) (some ⟨w.heap.size, 0, none⟩) [a, b] := by
  refine ⟨[.slice A la ca, .slice B lb cb], rfl, rd_new w t _, fun j hj => ?_⟩
  have : j = 0 ∨ j = 1 := by simp at hj; omega
  rcases this with rfl | rfl
  · exact ⟨A, ca, by simp [ha], ra.alloc _⟩
  · exact ⟨B, cb, by simp [hb], rb.alloc _⟩
theorem flat_take_succ (xss : List (List UInt8)) (k : Nat) (hk : k < xss.length) : (xss.take (k + 1)).flatten = (xss.take k).flatten ++ xss.getD k [] := by
  rw [List.take_add_one, List.getElem?_eq_getElem hk, List.flatten_append]
  simp [List.getD_eq_getElem?_getD, List.getElem?_eq_getElem hk]
theorem flat_take_le (xss : List (List UInt8)) (k : Nat) : (xss.take k).flatten.length ≤ xss.flatten.length := by
  conv => rhs; rw [← List.take_append_drop k xss, List.flatten_append, List.length_append]
  omega

set_option maxHeartbeats 1000000 in
theorem ssum_any (xss : List (List UInt8)) (n c : Nat) (A : Option Addr) (hn : xss.length = n) (hn2 : n ≤ 9223372036854775807) (hl : xss.flatten.length ≤ 100000000000) (w : World) (hr : RdR w A xss) :
    Calls Try.prog 14 #[.slice A n c] w fun e w' => ∃ r' A' c', e = .returned (.slice A' 32 c') ∧ Own w' w.heap.size 5 r' A' 32 c' (bv (sum xss.flatten)) ∧ Kp0 w w' ∧ ∀ k, r' = some k → w.heap.size ≤ k := by
  go_enter Try.func14, Try.ntmps14
  go_wp2_with (go_at_call 16; refine (new_any w.heap.size _ (Nat.le_refl _)).mono ?_; rintro e w1 ⟨g, rfl, hg, hH, hk1⟩)
  go_loopg [9] n (fun kq v9 wr => ∃ (k : Nat) (r : Option Nat), k ≤ n ∧ kq = n - k ∧ v9 = .int .i64 (k : Int) ∧ HashAt wr w.heap.size g r (xss.take k).flatten ∧ Kp0 w wr ∧ ∀ j, r = some j → w.heap.size ≤ j)
  case atStart => exact ⟨0, none, by omega, rfl, rfl, by simpa using hH, hk1, fun j h => by cases h⟩
  case round =>
    clear hH hk1
    obtain ⟨k, r, hk, rfl, rfl, hH, hK, hrl⟩ := hrel
    by_cases hlt : k < n
    · obtain ⟨b, o, B, c2, rfl, hcell, hB⟩ := (hr.kept0 hK).at_ (j := k) (by omega)
      have hfl := flat_take_succ xss k (by omega)
      have h1 := flat_take_le xss k
      have h2 := flat_take_le xss (k + 1)
      have h3 : (xss.take (k + 1)).flatten.length = (xss.take k).flatten.length + (xss.getD k []).length := by rw [hfl, List.length_append]
      have HF := Lib.hid hfl
      generalize xss.getD k [] = x at *
      generalize hM : (xss.take k).flatten = M at *
      have HM := Lib.hid hM
      have hb1 : M.length + x.length ≤ 100000000000 := by omega
      clear hfl h1 h2 h3 hM
      go_wp2_with (go_at_call 17; refine (add_any w.heap.size g r M B x.length c2 x rfl (by omega) _ hK.size hH hB).mono ?_; rintro e w2 ⟨rfl, r2, hH2, hr2, hk2⟩)
      go_roundg (n - (k + 1))
      case measure => omega
      case rel =>
        refine ⟨k + 1, r2, by omega, rfl, by go_num, by rw [HF.out]; exact hH2, hK.trans hk2 (fun j hj e => ?_), fun j hj => ?_⟩
        · rcases e with e | e
          · have := hH.1; omega
          · have := hrl j e.symm; omega
        · rcases hr2 with h | ⟨j', h, h2⟩
          · exact hrl j (h ▸ hj)
          · rw [h] at hj; injection hj with hj; subst hj; have := hK.size; omega
    · obtain rfl : k = n := by omega
      have hfull : xss.take k = xss := List.take_of_length_le (by omega)
      rw [hfull] at hH
      go_wp2_with (go_at_call 18; refine (hsum_any w.heap.size g r xss.flatten (by omega) _ hH).mono ?_; rintro e w2 ⟨r2, A2, c2, rfl, hO2, hk2, hr2⟩)
      go_ret
      have := hK.size
      exact ⟨r2, A2, c2, rfl, hO2.mono this, hK.then0 hk2, fun j hj => by have := hr2 j hj; omega⟩

end Go.Proofs.Ytbkmfoelaapkaaa
