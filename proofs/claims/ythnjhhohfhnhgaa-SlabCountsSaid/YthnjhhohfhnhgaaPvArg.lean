/- The logic of pure values: what comes into a statement, whatever its type, told by trees. -/
import Derived.Test.YthnjhhohfhnhgaaPvL
import Derived.ChangeArms
import Derived.WideShapes
namespace Go.Proofs.Ythnjhhohfhnhgaa
open Go Go.RowKit

/-- Nothing is forbidden. -/
abbrev V0 : Nat → Nat → Prop := fun _ _ => False
theorem ctr_row {P : Program} {g : FuncId} {xs : List PV} {vs : Array Value} {w : World} (h : Ctr P g xs (.bool true)) (hx : RzL (cl w V0) xs vs.toList) : Calls P g vs w fun e w' => e = .returned (.bool true) ∧ Below w.heap.size w w' := by
  refine (h w V0 vs (fun _ _ h => h.elim) hx).mono ?_
  rintro e w' ⟨u, rfl, hk, hu⟩
  simp only [Rz] at hu
  subst hu
  exact ⟨rfl, hk.below⟩
theorem cell_spot0 {w : World} {a : Addr} {v : Value} (h : w.cell? a = some v) : a.spot = none := by
  unfold World.cell? at h
  split at h
  · split at h
    · cases h
    · rename_i h1 h2; cases hs : a.spot with
      | none => rfl
      | some x => rw [hs] at h2; exact absurd rfl h2
  · cases h
theorem choose_list {α : Type} (len : Nat) (p : Nat → α → Prop) (h : ∀ r, r < len → ∃ x, p r x) : ∃ xs : List α, xs.length = len ∧ ∀ (r : Nat) (x : α), xs[r]? = some x → p r x := by
  induction len with
  | zero => exact ⟨[], rfl, fun r x hr => by simp at hr⟩
  | succ n ih =>
    obtain ⟨xs, hl, hx⟩ := ih fun r hr => h r (by omega)
    obtain ⟨y, hy⟩ := h n (by omega)
    refine ⟨xs ++ [y], by simp [hl], fun r x hr => ?_⟩
    rcases Nat.lt_or_ge r n with h1 | h1
    · rw [List.getElem?_append_left (by omega)] at hr
      exact hx r x hr
    · rw [List.getElem?_append_right (by omega), hl] at hr
      have : r = n := by
        have := (List.getElem?_eq_some_iff.1 hr).1
        simp at this; omega
      subst this
      simp at hr
      subst hr
      exact hy

/-- What comes in of type t, of k cells: a datum a, told by pv a. -/
structure InT (P : Program) (t : TypeId) (k : Nat) (α : Type) (pv : α → List PV) (ok : α → Prop) : Prop where
  size : P.cellsOf t = k
  len : ∀ a, (pv a).length = k
  read : ∀ {H : Type} (enc : TypeId × Value → H) (w : World) (base : Nat) (spare : Nat → Bool) (held : Bool) (fuel : Nat) (cs : List Value) (x : DataW H × List MemPlace), DataW.trod enc P w base spare held fuel t cs = some x → ∃ a, ok a ∧ RzL (cl w V0) (pv a) cs
section
variable {P : Program} {t : TypeId} {k : Nat} {α β γ : Type} {pv : α → List PV} {ok : α → Prop}
theorem InT.map (h : InT P t k α pv ok) {pv' : β → List PV} {ok' : β → Prop} (g : α → β) (hpv : ∀ a, ok a → pv' (g a) = pv a) (hl : ∀ b, (pv' b).length = k) (hok : ∀ a, ok a → ok' (g a)) : InT P t k β pv' ok' :=
  ⟨h.size, hl, fun enc w base spare held fuel cs x hx => by
    obtain ⟨a, h1, h2⟩ := h.read enc w base spare held fuel cs x hx
    exact ⟨g a, hok a h1, by rw [hpv a h1]; exact h2⟩⟩
theorem in_int {kd : IntKind} {b : Nat} [ht : Ty P t (.int kd) 1 b] : InT P t 1 Int (fun n => [.int kd n]) (fun n => (Lit.int kd n).wf = true) :=
  ⟨by obtain ⟨i, h1, h2⟩ := Option.map_eq_some_iff.1 ht.info; injection h2 with h2 _; simp [Program.cellsOf, h1, h2], fun _ => rfl, fun enc w base spare held fuel cs x hx => by
    obtain ⟨n, rfl, _, hw⟩ := DataW.trod_int ht.und hx
    exact ⟨n, hw, _, _, rfl, rfl, rfl⟩⟩
theorem in_bool {b : Nat} [ht : Ty P t .bool 1 b] : InT P t 1 Bool (fun n => [.bool n]) (fun _ => True) :=
  ⟨by obtain ⟨i, h1, h2⟩ := Option.map_eq_some_iff.1 ht.info; injection h2 with h2 _; simp [Program.cellsOf, h1, h2], fun _ => rfl, fun enc w base spare held fuel cs x hx => by
    obtain ⟨n, rfl, _⟩ := DataW.trod_bool ht.und hx
    exact ⟨n, trivial, _, _, rfl, rfl, rfl⟩⟩
theorem in_byte {b : Nat} [ht : Ty P t (.int .u8) 1 b] : InT P t 1 UInt8 (fun n => [.int .u8 (n.toNat : Int)]) (fun _ => True) :=
  (in_int (P := P) (t := t)).map (fun n => UInt8.ofNat n.toNat) (fun n hn => by
    have h1 : 0 ≤ n ∧ n ≤ 255 := by
      simp [Lit.wf, IntKind.min, IntKind.max, IntKind.signed, IntKind.bits] at hn
      omega
    have h2 : (UInt8.ofNat n.toNat).toNat = n.toNat := by rw [UInt8.toNat_ofNat']; omega
    rw [h2, show ((n.toNat : Nat) : Int) = n by omega]) (fun _ => rfl) (fun _ _ => trivial)
theorem in_slice {e : TypeId} {b : Nat} [ht : Ty P t (.slice e) 1 b] (h : InT P e k α pv ok) (hk : 0 < k) : InT P t 1 (List α) (fun l => [.ro false l.length (l.flatMap pv)]) (fun l => l.length ≤ maxLen ∧ ∀ a ∈ l, ok a) :=
  ⟨by obtain ⟨i, h1, h2⟩ := Option.map_eq_some_iff.1 ht.info; injection h2 with h2 _; simp [Program.cellsOf, h1, h2], fun _ => rfl, fun enc w base spare held fuel cs x hx => by
    rcases DataW.trod_slice ht.und hx with ⟨rfl, _⟩ | ⟨a, len, cap, elems, rest, n, _, rfl, rfl, hb, hl, hm, hlen, hel, _, _⟩
    · exact ⟨[], ⟨by simp, by simp⟩, _, _, rfl, ⟨none, 0, rfl, Nat.le_refl _, by simp, fun _ => rfl, .inl rfl⟩, rfl⟩
    · rw [h.size] at hel
      have each : ∀ r, r < len → ∃ y, ok y ∧ ∃ cs' : List Value, cs'.length = k ∧ (∀ i, i < k → w.cell? ((a.add (r * k)).add i) = cs'[i]?) ∧ RzL (cl w V0) (pv y) cs' := by
        intro r hr
        have h1 := hel r hr
        rw [List.getElem?_eq_getElem (by omega), Option.bind_eq_some_iff] at h1
        obtain ⟨cs', h2, h3⟩ := h1
        obtain ⟨_, h4, h5⟩ := World.cells?_some h2
        obtain ⟨y, h6, h7⟩ := h.read enc w base spare held n cs' _ h3
        exact ⟨y, h6, cs', h4, h5, h7⟩
      obtain ⟨xs, hxl, hx'⟩ := choose_list len _ each
      refine ⟨xs, ⟨by omega, fun y hy => ?_⟩, _, _, rfl, ⟨some a, cap, by rw [hxl], by rw [hxl]; exact hl, by simp, (fun h => by cases h), ?_⟩, rfl⟩
      · obtain ⟨i, hi, rfl⟩ := List.getElem_of_mem hy
        exact (hx' i _ (List.getElem?_eq_getElem hi)).1
      · rcases Nat.eq_zero_or_pos len with h0 | h0
        · subst h0
          exact .inl (by rw [List.eq_nil_of_length_eq_zero hxl]; rfl)
        · have hs : a.spot = none := by
            obtain ⟨_, cs', h4, h5, _⟩ := hx' 0 _ (List.getElem?_eq_getElem (by omega))
            have h6 := h5 0 hk
            rw [List.getElem?_eq_getElem (by omega)] at h6
            have := cell_spot0 h6
            have e1 : (a.add (0 * k)).add 0 = a := by simp [Addr.add]
            rwa [e1] at this
          obtain ⟨ab, ao, asp⟩ := a
          simp only at hs
          subst hs
          refine .inr ⟨ab, ao, rfl, ?_⟩
          rw [RzAt_iff]
          intro i z hz
          have hlen2 : i < xs.length * k := by rw [← length_fm h.len xs]; exact (List.getElem?_eq_some_iff.1 hz).1
          have hd : i / k < xs.length := by rw [Nat.div_lt_iff_lt_mul hk]; exact hlen2
          have hdm : i = i / k * k + i % k := by rw [Nat.mul_comm]; exact (Nat.div_add_mod i k).symm
          have hmk := Nat.mod_lt i hk
          obtain ⟨_, cs', h4, h5, h6⟩ := hx' (i / k) _ (List.getElem?_eq_getElem hd)
          have hz2 : (pv xs[i / k])[i % k]? = some z := by
            have := List.getElem?_drop (xs := xs.flatMap pv) (i := i / k * k) (j := i % k)
            rw [at_fm h.len xs (i / k) hd, List.getElem?_append_left (by rw [h.len]; exact hmk), ← hdm, hz] at this
            exact this
          obtain ⟨u, h7, h8⟩ := ((RzL_iff _ _).1 h6).2 _ z hz2
          have h9 := h5 (i % k) hmk
          rw [h7] at h9
          have e1 : ((⟨ab, ao, none⟩ : Addr).add (i / k * k)).add (i % k) = ⟨ab, ao + i, none⟩ := by
            rw [addr_add (a := ⟨ab, ao, none⟩) rfl, addr_add (a := ⟨ab, ao + i / k * k, none⟩) rfl]
            simp only [Nat.add_assoc]
            rw [← hdm]
          rw [e1] at h9
          refine ⟨u, h9, ?_, h8⟩
          rintro (h | ⟨_, _, h, _⟩)
          · exact h
          · cases h⟩
/-- The fields from number i on, which lie from cell off on. -/
structure InFs (P : Program) (t : TypeId) (i off : Nat) (α : Type) (pv : α → List PV) (ok : α → Prop) : Prop where
  len : ∀ a, off + (pv a).length = P.cellsOf t
  read : ∀ {H : Type} (enc : TypeId × Value → H) (w : World) (base : Nat) (spare : Nat → Bool) (held : Bool) (n : Nat) (cs : List Value), cs.length = P.cellsOf t →
    (∀ (fs : Array Field) (j : Nat) (f : Field), P.underlying t = some (.struct fs) → fs[j]? = some f → ∃ x : DataW H × List MemPlace, DataW.trod enc P w base spare held n f.type ((cs.drop f.offset).take (P.cellsOf f.type)) = some x) → ∃ a, ok a ∧ RzL (cl w V0) (pv a) (cs.drop off)
theorem in_fnil {i : Nat} (hk : P.cellsOf t = k) : InFs P t i k Unit (fun _ => []) (fun _ => True) :=
  ⟨fun _ => hk.symm, fun enc w base spare held n cs hl _ => ⟨(), trivial, by simp only [RzL]; rw [List.drop_eq_nil_iff]; omega⟩⟩
theorem in_fcons (i : Nat) {off : Nat} {ft : TypeId} [hf : Fld P t i off ft] {pvc : γ → List PV} {okc : γ → Prop} (h : InT P ft k α pv ok) (hr : InFs P t (i + 1) (off + k) γ pvc okc) :
    InFs P t i off (α × γ) (fun p => pv p.1 ++ pvc p.2) (fun p => ok p.1 ∧ okc p.2) :=
  ⟨fun p => by have := hr.len p.2; rw [List.length_append, h.len]; omega, fun enc w base spare held n cs hl hx => by
    obtain ⟨fs, f, h1, h2, rfl, rfl⟩ := hf.out
    obtain ⟨x, h3⟩ := hx fs i f h1 h2
    rw [h.size] at h3
    obtain ⟨a, h4, h5⟩ := h.read enc w base spare held n _ x h3
    obtain ⟨c, h6, h7⟩ := hr.read enc w base spare held n cs hl hx
    refine ⟨(a, c), ⟨h4, h6⟩, ?_⟩
    have e : cs.drop f.offset = (cs.drop f.offset).take k ++ cs.drop (f.offset + k) := by rw [← List.drop_drop, List.take_append_drop]
    rw [e]
    exact RzL_append h5 h7⟩
theorem in_struct {off : Nat} {ft : TypeId} [hf : Fld P t 0 off ft] (hk : P.cellsOf t = k) (h : InFs P t 0 0 α pv ok) : InT P t k α pv ok :=
  ⟨hk, fun a => by have := h.len a; omega, fun enc w base spare held fuel cs x hx => by
    obtain ⟨fs, f, h1, _⟩ := hf.out
    obtain ⟨xs, n, _, _, h2, h3, h4⟩ := DataW.trod_struct h1 hx
    obtain ⟨a, h5, h6⟩ := h.read enc w base spare held n cs h2 (fun fs' j f' e1 e2 => by
      rw [h1] at e1; injection e1 with e1; injection e1 with e1; subst e1
      have h5 := h4 j f' e2
      have hj : j < xs.length := by rw [h3]; exact (Array.getElem?_eq_some_iff.1 e2).1
      exact ⟨xs[j], by rw [h5]; exact List.getElem?_eq_getElem hj⟩)
    exact ⟨a, h5, by simpa using h6⟩⟩
/-! ### An argument -/
theorem arg_one {H : Type} {enc : TypeId × Value → H} {w : World} {base : Nat} {spare : Nat → Bool} {held : Bool} {v : Value} {d : DataW H} {p : List MemPlace} (h : InT P t 1 α pv ok) {x : α → PV} (hpv : ∀ a, pv a = [x a]) (hv : v.cells = #[v]) (hd : DataW.Trod enc P w base spare held t v d p) : ∃ a, ok a ∧ Rz (cl w V0) (x a) v := by
  obtain ⟨fuel, hf⟩ := hd
  obtain ⟨a, h1, h2⟩ := h.read enc w base spare held fuel _ _ hf
  rw [hpv, hv] at h2
  obtain ⟨u, us, e, h3, _⟩ := h2
  simp at e
  obtain ⟨rfl, _⟩ := e
  exact ⟨a, h1, h3⟩
theorem arg_struct {H : Type} {enc : TypeId × Value → H} {w : World} {base : Nat} {spare : Nat → Bool} {held : Bool} {cs : Array Value} {d : DataW H} {p : List MemPlace} (h : InT P t k α pv ok) (hd : DataW.Trod enc P w base spare held t (.agg cs) d p) : ∃ a, ok a ∧ Rz (cl w V0) (.agg (pv a)) (.agg cs) := by
  obtain ⟨fuel, hf⟩ := hd
  obtain ⟨a, h1, h2⟩ := h.read enc w base spare held fuel _ _ hf
  exact ⟨a, h1, cs, rfl, h2⟩
end
end Go.Proofs.Ythnjhhohfhnhgaa
