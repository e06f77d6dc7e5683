/- The logic of pure values: calls with own blocks, as the walk meets them. -/
import Derived.Test.YthnjhhohfhnhgaaPvO
import Derived.Test.YthnjhhohfhnhgaaPvBy
namespace Go.Proofs.Ythnjhhohfhnhgaa
open Go Go.RowKit

/-- The caller's blocks, as the callee takes them. -/
def inB (ρ : List Nat) (H : Nat → Option Blk') (vis : List Nat) : List Nat → List Blk' → Prop
  | [], [] => True
  | i :: l, b0 :: bs => (∃ b, H i = some b ∧ BlkTr (inM ρ) H vis b b0) ∧ inB ρ H vis l bs
  | _, _ => False
theorem inB_get {ρ : List Nat} {H : Nat → Option Blk'} {vis : List Nat} : ∀ (l : List Nat) (bs : List Blk'), inB ρ H vis l bs → l.length = bs.length ∧ ∀ (m : Nat) (b0 : Blk'), bs[m]? = some b0 → ∃ b, H (l.getD m 0) = some b ∧ BlkTr (inM ρ) H vis b b0
  | [], [], _ => ⟨rfl, by simp⟩
  | i :: l, b0 :: bs, h => by
    obtain ⟨h1, h2⟩ := h
    obtain ⟨h3, h4⟩ := inB_get l bs h2
    refine ⟨by simp [h3], fun m b hm => ?_⟩
    cases m with
    | zero => simp at hm; subst hm; exact h1
    | succ m => simpa using h4 m b (by simpa using hm)
  | [], _ :: _, h => h.elim
  | _ :: _, [], h => h.elim
/-- The callee's blocks, as the caller takes them back. -/
def outB (ρ : List Nat) (n k : Nat) (H' : Nat → Option Blk') : Nat → List (Option Blk') → Prop
  | _, [] => True
  | m, none :: l => H' (numO ρ n m) = none ∧ outB ρ n k H' (m + 1) l
  | m, some b :: l => (∃ b', H' (numO ρ n m) = some b' ∧ BlkTr (outM ρ n k) (fun _ => none) [] b b') ∧ outB ρ n k H' (m + 1) l
theorem outB_get {ρ : List Nat} {n k : Nat} {H' : Nat → Option Blk'} : ∀ (l : List (Option Blk')) (q : Nat), outB ρ n k H' q l → ∀ m, m < l.length → match (l[m]?).join with
      | none => H' (numO ρ n (q + m)) = none
      | some b => ∃ b', H' (numO ρ n (q + m)) = some b' ∧ BlkTr (outM ρ n k) (fun _ => none) [] b b'
  | [], _, _, m, hm => absurd hm (by simp)
  | none :: l, q, h, m, hm => by
    cases m with
    | zero => exact h.1
    | succ m =>
      have := outB_get l (q + 1) h.2 m (by simpa using hm)
      rw [show q + 1 + m = q + (m + 1) by omega] at this
      simpa using this
  | some b :: l, q, h, m, hm => by
    cases m with
    | zero => exact h.1
    | succ m =>
      have := outB_get l (q + 1) h.2 m (by simpa using hm)
      rw [show q + 1 + m = q + (m + 1) by omega] at this
      simpa using this
theorem hget_app {UL HL : List (Nat × Blk')} {i : Nat} (h : ∀ p ∈ UL, p.1 ≠ i) : hget (UL ++ HL) i = hget HL i := by
  induction UL with
  | nil => rfl
  | cons p UL ih =>
    obtain ⟨d, b⟩ := p
    have h1 : d ≠ i := h (d, b) (by simp)
    show (match Nat.beq i d with | true => some b | false => hget (UL ++ HL) i) = _
    rw [beq_ne (Ne.symm h1)]
    exact ih fun p hp => h p (by simp [hp])

section
variable {P : Program} {N : Nat} {ops : Array Oper} {o : Oper} {l : List Oper} {TL : List (Nat × PV)} {HL UL : List (Nat × Blk')} {n n' : Nat} {fp : List Fp} {K : List (Nat × PV) → List (Nat × Blk') → Nat → List Fp → Prop} {v : PV} {R W : List Nat} {d : Nat}
theorem RL.ws (hg : gd ops (tget TL) o = some true) (hd : o.dst = some d) (h : OpOk P N o (tget TL) (hget HL) n v (hget (UL ++ HL)) n' R W) (hr : RL P N ops l ((d, v) :: TL) (UL ++ HL) n' (fp ++ [(R, W)]) K) : RL P N ops (o :: l) TL HL n fp K :=
  .inl ⟨hg, v, _, n', R, W, h, by rw [hd, put_cons]; exact hr⟩
theorem RL.ws0 (hg : gd ops (tget TL) o = some true) (hd : o.dst = none) (h : OpOk P N o (tget TL) (hget HL) n v (hget (UL ++ HL)) n' R W) (hr : RL P N ops l TL (UL ++ HL) n' (fp ++ [(R, W)]) K) : RL P N ops (o :: l) TL HL n fp K :=
  .inl ⟨hg, v, _, n', R, W, h, by rw [hd]; exact hr⟩
theorem RL.wsa (h : OpOk P N o (tget TL) (hget HL) n v (hget (UL ++ HL)) n' R W) (hr : RL P N ops l ((d, v) :: TL) (UL ++ HL) n' (fp ++ [(R, W)]) K) (hg : o.guard = none := by rfl) (hd : o.dst = some d := by rfl) : RL P N ops (o :: l) TL HL n fp K := RL.ws (gd_none hg) hd h hr
theorem RL.ws0a (h : OpOk P N o (tget TL) (hget HL) n v (hget (UL ++ HL)) n' R W) (hr : RL P N ops l TL (UL ++ HL) n' (fp ++ [(R, W)]) K) (hg : o.guard = none := by rfl) (hd : o.dst = none := by rfl) : RL P N ops (o :: l) TL HL n fp K := RL.ws0 (gd_none hg) hd h hr
/-- A call by contract that is handed the own blocks ρ, and leaves them, and new ones, as UL tells. -/
theorem oCallO (ρ : List Nat) (UL : List (Nat × Blk')) {T : Nat → PV} {g : FuncId} [Ent P g] {f : Operand} {as : Array Operand} {ts : Array TypeId} {ys xs : List PV} {r : PV} {B0 : List Blk'} {B1 : List (Option Blk')}
    (ho : o.op = .call { callee := .value f, args := as, argTypes := ts }) (hN : dstB o.dst N = true) (hf : ev T f = .fn (.func g) [] []) (hy : as.toList.map (ev T) = ys) (hc : CtrO P g B0 xs r B1)
    (hnd : ρ.Nodup) (hin : inB ρ (hget HL) [] ρ B0) (hx : TrL (inM ρ) (hget HL) [] ys xs) (hk : Nat.ble B0.length B1.length = true) (hout : outB ρ n B1.length (hget (UL ++ HL)) 0 B1)
    (hn : n + (B1.length - B0.length) = n') (hkeys : UL.all (fun p => ρ.contains p.1 || (Nat.ble n p.1 && Nat.ble (p.1 + 1) n')) = true) (hv : Tr (outM ρ n B1.length) (fun _ => none) [] r v) :
    OpOk P N o T (hget HL) n v (hget (UL ++ HL)) n' [] ([] ++ ρ ++ (List.range (B1.length - B0.length)).map (n + ·)) := by
  obtain ⟨h1, h2⟩ := inB_get _ _ hin
  subst hn
  refine OpOk.callO ρ [] ho (dst_of hN) hf h1 hnd (by simp) h2 (xs := xs) (by rw [List.nil_append, List.append_nil, hy]; exact hx) hc (Nat.le_of_ble_eq_true hk) ?_ (by simp) ?_ hv
  · intro m hm
    have := outB_get B1 0 hout m hm
    rwa [Nat.zero_add] at this
  · intro i h3 _ h4
    refine hget_app fun p hp e => ?_
    have := List.all_eq_true.1 hkeys p hp
    subst e
    simp only [Bool.or_eq_true, Bool.and_eq_true, List.contains_iff_mem, Nat.ble_eq] at this
    rcases this with h | h
    · exact h3 h
    · exact h4 ⟨h.1, by omega⟩
end

/-- **A contract with own blocks out of a walk that begins with lists.** -/
theorem ctrO_go {P : Program} {g : FuncId} {fn : Func} {c : Code} {B0 : List Blk'} {xs : List PV} {r : PV} {B1 : List (Option Blk')} (N : Nat) (TL : List (Nat × PV)) (HL : List (Nat × Blk')) (hf : P.funcs[g]? = some fn) (hb : fn.body = some c) (hN : fn.ntmps = N) (hx : Nat.ble xs.length N = true) (hT : ∀ p ∈ TL, xs.getD p.1 .junk = p.2) (hB : ∀ p ∈ HL, B0[p.1]? = some p.2)
    (h : lwp none P N B0.length c (fun e t => (e = .normal ∨ e = .ret) ∧ t.n ≤ B1.length ∧ (∀ i b, (B1[i]?).join = some b → t.H i = some b) ∧ ∃ r0 vis, ResOk P N fn t r0 ∧ (∀ i ∈ vis, (B1[i]?).join = none) ∧ Tr (keptM B1) t.H vis r0 r) (St' TL HL B0.length)) : CtrO P g B0 xs r B1 := by
  refine ctrO_of_lwp N hf hb hN (Nat.le_of_ble_eq_true hx) (lwp_less (t := St' TL HL B0.length) ⟨fun i c v hv => ?_, fun i b hb => ?_, Nat.le_refl _⟩ h)
  · show Rz c (tget TL i) v
    rcases tget_or TL i with h | ⟨p, hp, rfl, h2⟩
    · rw [h]; simp [Rz]
    · rw [h2.trans (hT p hp).symm]; exact hv
  · obtain ⟨p, hp, rfl, rfl⟩ := hget_or HL i b hb
    exact hB p hp
/-- What is kept at the end. -/
def keptB (H : Nat → Option Blk') : Nat → List (Option Blk') → Prop
  | _, [] => True
  | m, none :: l => keptB H (m + 1) l
  | m, some b :: l => H m = some b ∧ keptB H (m + 1) l
theorem keptB_get {H : Nat → Option Blk'} : ∀ (l : List (Option Blk')) (q : Nat), keptB H q l → ∀ i b, (l[i]?).join = some b → H (q + i) = some b
  | [], _, _, i, b, h => by simp at h
  | none :: l, q, hk, i, b, h => by
    cases i with
    | zero => simp at h
    | succ i =>
      have := keptB_get l (q + 1) hk i b (by simpa using h)
      rwa [show q + 1 + i = q + (i + 1) by omega] at this
  | some b0 :: l, q, hk, i, b, h => by
    cases i with
    | zero => simp at h; subst h; exact hk.1
    | succ i =>
      have := keptB_get l (q + 1) hk.2 i b (by simpa using h)
      rwa [show q + 1 + i = q + (i + 1) by omega] at this
section
variable {P : Program} {N : Nat} {TL : List (Nat × PV)} {HL : List (Nat × Blk')} {n : Nat} {fn : Func} {B1 : List (Option Blk')}
theorem end_of {Q : Prop} (hn : Nat.ble n B1.length = true) (hk : keptB (hget HL) 0 B1) (h : Q) : (St' TL HL n).n ≤ B1.length ∧ (∀ i b, (B1[i]?).join = some b → (St' TL HL n).H i = some b) ∧ Q :=
  ⟨Nat.le_of_ble_eq_true hn, fun i b h => by have := keptB_get B1 0 hk i b h; rwa [Nat.zero_add] at this, h⟩
/-- No result. -/
theorem retO0 (h : fn.results = #[]) : ∃ r0 vis, ResOk P N fn (St' TL HL n) r0 ∧ (∀ i ∈ vis, (B1[i]?).join = none) ∧ Tr (keptM B1) (St' TL HL n).H vis r0 (.tup []) :=
  ⟨.tup [], [], .none h, by simp, .cv⟩
/-- One result. -/
theorem retO1 {t : Nat} {r0 r : PV} (h : fn.results = #[.tmp t]) (hl : Lk TL t r0) (hr : Tr (keptM B1) (hget HL) [] r0 r) : ∃ r0 vis, ResOk P N fn (St' TL HL n) r0 ∧ (∀ i ∈ vis, (B1[i]?).join = none) ∧ Tr (keptM B1) (St' TL HL n).H vis r0 r :=
  ⟨r0, [], .one h (res_tmp hl), by simp, hr⟩
theorem retO2 {t u : Nat} {r0 q0 r q : PV} (h : fn.results = #[.tmp t, .tmp u]) (hl : Lk TL t r0) (hl2 : Lk TL u q0) (vis : List Nat) (hvis : ∀ i ∈ vis, (B1[i]?).join = none) (hr : Tr (keptM B1) (hget HL) vis r0 r) (hq : Tr (keptM B1) (hget HL) vis q0 q) : ∃ r0 vis, ResOk P N fn (St' TL HL n) r0 ∧ (∀ i ∈ vis, (B1[i]?).join = none) ∧ Tr (keptM B1) (St' TL HL n).H vis r0 (.tup [r, q]) :=
  ⟨.tup [r0, q0], vis, .many [.tmp t, .tmp u] h rfl (Nat.le_refl 2) (fun i x hx => by
    match i, hx with
    | 0, hx => injection hx with hx; subst hx; exact res_tmp hl
    | 1, hx => injection hx with hx; subst hx; exact res_tmp hl2), hvis, .tup (.cons hr (.cons hq .nil))⟩
end
end Go.Proofs.Ythnjhhohfhnhgaa
