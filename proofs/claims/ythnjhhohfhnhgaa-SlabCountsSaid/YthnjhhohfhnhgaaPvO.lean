/- The logic of pure values: calls that turn own blocks, and that hand back such. -/
import Derived.Test.YthnjhhohfhnhgaaPvX
namespace Go.Proofs.Ythnjhhohfhnhgaa
open Go Go.RowKit

/-- Block i of a is block j of b wherever M i j. -/
structure Cor (M : Nat → Nat → Prop) (a b : Cx) : Prop where
  w : b.w = a.w
  blk : ∀ i j, M i j → a.B i → b.B j ∧ b.φ j = a.φ i ∧ ∀ x, b.H j = some x → ∃ y, a.H i = some y ∧ y.gen = x.gen ∧ y.es = x.es
/-- What x tells in one context, y tells in another; own blocks in vis stand from then on. -/
def Tr (M : Nat → Nat → Prop) (H : Nat → Option Blk') (vis : List Nat) (x y : PV) : Prop :=
  ∀ (a b : Cx) (v : Value), HSim a → (∀ i ∈ vis, a.H i = H i) → Cor M a b → (∀ k j, ¬ a.av k j → ¬ b.av k j) →
    (∀ i ∈ vis, ∀ x, a.H i = some x → ∀ j, j < x.cells.length → ¬ b.av (a.φ i).1 ((a.φ i).2 + j)) → Rz a x v → Rz b y v
def TrL (M : Nat → Nat → Prop) (H : Nat → Option Blk') (vis : List Nat) (xs ys : List PV) : Prop := xs.length = ys.length ∧ ∀ (i : Nat) (x : PV), xs[i]? = some x → ∃ y, ys[i]? = some y ∧ Tr M H vis x y
section
variable {M : Nat → Nat → Prop} {H : Nat → Option Blk'} {vis : List Nat}
theorem Tr.snap {x y : PV} (h : Snap H vis x y) : Tr M H vis x y := by
  intro a b v hs hH hc hav hvis hv
  exact Rz_open (V' := b.av) hc.w (fun _ _ h => h) _ _ (by rw [← hc.w] at *; exact (by rw [hc.w]; exact h a v b.av hs hH hav hvis hv))
theorem Tr.cv {x y : PV} [h : Cv x y] : Tr M H vis x y := .snap (h.out H vis)
theorem Tr.wk {x y z : PV} (h : Tr M H vis x y) (k : Wk y z) : Tr M H vis x z := fun a b v h1 h2 h3 h4 h5 hv => k _ _ (h a b v h1 h2 h3 h4 h5 hv)
theorem Tr.os {i j g off n : Nat} (h : M i j) : Tr M H vis (.os i g off n) (.os j g off n) := by
  rintro a b v hs hH hc hav hvis ⟨h1, h2, h3⟩
  obtain ⟨h4, h5, h6⟩ := hc.blk i j h h2
  refine ⟨h1, h4, fun x hx => ?_⟩
  obtain ⟨y, hy, e1, e2⟩ := h6 x hx
  obtain ⟨h7, h8⟩ := h3 y hy
  rw [e1] at h7 h8
  refine ⟨h7, fun e => ?_⟩
  obtain ⟨h0, ad, cap, h9, h10, h11, h12⟩ := h8 e
  rw [h5, hc.w, ← e2]
  exact ⟨h0, ad, cap, h9, h10, h11, h12⟩
theorem Tr.op {i j g off : Nat} (h : M i j) : Tr M H vis (.op i g off) (.op j g off) := by
  rintro a b v hs hH hc hav hvis ⟨h1, h2, h3⟩
  obtain ⟨h4, h5, h6⟩ := hc.blk i j h h2
  refine ⟨h1, h4, fun x hx => ?_⟩
  obtain ⟨y, hy, e1, e2⟩ := h6 x hx
  obtain ⟨h7, h8⟩ := h3 y hy
  rw [e1] at h7 h8
  refine ⟨h7, fun e => ?_⟩
  rw [h5, ← e2]
  exact h8 e
theorem TrL.rzl {xs ys : List PV} (h : TrL M H vis xs ys) {a b : Cx} (hs : HSim a) (h1 : ∀ i ∈ vis, a.H i = H i) (hc : Cor M a b) (h2 : ∀ k j, ¬ a.av k j → ¬ b.av k j)
    (h3 : ∀ i ∈ vis, ∀ x, a.H i = some x → ∀ j, j < x.cells.length → ¬ b.av (a.φ i).1 ((a.φ i).2 + j)) {vs : List Value} (hv : RzL a xs vs) : RzL b ys vs := by
  rw [RzL_iff] at hv ⊢
  refine ⟨hv.1.trans h.1, fun i y hy => ?_⟩
  have hi : i < xs.length := by rw [h.1]; exact (List.getElem?_eq_some_iff.1 hy).1
  obtain ⟨y', e1, e2⟩ := h.2 i xs[i] (List.getElem?_eq_getElem hi)
  rw [hy] at e1; injection e1 with e1; subst e1
  obtain ⟨v, e3, e4⟩ := hv.2 i xs[i] (List.getElem?_eq_getElem hi)
  exact ⟨v, e3, e2 a b v hs h1 hc h2 h3 e4⟩
theorem TrL.nil : TrL M H vis [] [] := ⟨rfl, by simp⟩
theorem TrL.cons {x y : PV} {xs ys : List PV} (h : Tr M H vis x y) (hl : TrL M H vis xs ys) : TrL M H vis (x :: xs) (y :: ys) :=
  ⟨by simp [hl.1], fun i z hz => by
    cases i with
    | zero => simp at hz; subst hz; exact ⟨y, rfl, h⟩
    | succ i => simpa using hl.2 i z (by simpa using hz)⟩
theorem TrL.map {α : Type} {f g : α → PV} (h : ∀ a, Tr M H vis (f a) (g a)) (l : List α) : TrL M H vis (l.map f) (l.map g) :=
  ⟨by simp, fun i z hz => by
    rw [List.getElem?_map] at hz ⊢
    obtain ⟨a, h1, rfl⟩ := Option.map_eq_some_iff.1 hz
    exact ⟨g a, by rw [h1]; rfl, h a⟩⟩
theorem TrL.snap {xs ys : List PV} (h : SnapL H vis xs ys) : TrL M H vis xs ys := ⟨h.1, fun i x hx => let ⟨y, h1, h2⟩ := h.2 i x hx; ⟨y, h1, .snap h2⟩⟩
theorem TrL.cv {xs ys : List PV} [h : CvL xs ys] : TrL M H vis xs ys := .snap (h.out H vis)
theorem Tr.agg {xs ys : List PV} (h : TrL M H vis xs ys) : Tr M H vis (.agg xs) (.agg ys) := by
  rintro a b v hs h1 hc h2 h3 ⟨cs, e, hl⟩
  exact ⟨cs, e, h.rzl hs h1 hc h2 h3 hl⟩
theorem Tr.tup {xs ys : List PV} (h : TrL M H vis xs ys) : Tr M H vis (.tup xs) (.tup ys) := by
  rintro a b v hs h1 hc h2 h3 ⟨cs, e, hl⟩
  exact ⟨cs, e, h.rzl hs h1 hc h2 h3 hl⟩
end
/-- A block, told in another context. -/
structure BlkTr (M : Nat → Nat → Prop) (H : Nat → Option Blk') (vis : List Nat) (x y : Blk') : Prop where
  gen : y.gen = x.gen
  es : y.es = x.es
  lo : y.lo = x.lo
  cells : TrL M H vis x.cells y.cells

theorem Lies.tr {M : Nat → Nat → Prop} {H : Nat → Option Blk'} {vis : List Nat} {a b : Cx} {o : Option Obj} {off : Nat} {x y : Blk'} (h : Lies a o off x) (t : BlkTr M H vis x y) (hs : HSim a) (h1 : ∀ i ∈ vis, a.H i = H i) (hc : Cor M a b) (h2 : ∀ k j, ¬ a.av k j → ¬ b.av k j)
    (h3 : ∀ i ∈ vis, ∀ x, a.H i = some x → ∀ j, j < x.cells.length → ¬ b.av (a.φ i).1 ((a.φ i).2 + j)) : Lies b o off y := by
  rcases h with ⟨h0, cs, ty, e1, e2, e3⟩ | ⟨h0, es, cl, e1, ew, e2⟩
  · refine .inl ⟨by rw [t.es]; exact h0, cs, ty, e1, by rw [← t.cells.1]; exact e2, fun j z hz => ?_⟩
    have hj : j < x.cells.length := by rw [t.cells.1]; exact (List.getElem?_eq_some_iff.1 hz).1
    obtain ⟨z', e4, e5⟩ := t.cells.2 j _ (List.getElem?_eq_getElem hj)
    rw [hz] at e4; injection e4 with e4; subst e4
    obtain ⟨u, h4, h5⟩ := e3 j _ (List.getElem?_eq_getElem hj)
    exact ⟨u, h4, e5 a b u hs h1 hc h2 h3 h5⟩
  · exact .inr ⟨by rw [t.es]; exact h0, es, cl, e1, ew, t.cells.rzl hs h1 hc h2 h3 e2⟩
/-- The contract of a function that is handed own blocks B0 (numbers 0, 1, ..), and leaves them, and new ones, as B1 tells. -/
def CtrO (P : Program) (g : FuncId) (B0 : List Blk') (xs : List PV) (r : PV) (B1 : List (Option Blk')) : Prop :=
  ∀ (c : Cx) (vs : Array Value), HSim c → (∀ i, c.H i = B0[i]?) → (∀ i, c.B i ↔ i < B0.length) → RzL c xs vs.toList →
    Calls P g vs c.w fun e w' => ∃ c' u, e = .returned u ∧ c'.w = w' ∧ Ext c c' ∧ HSim c' ∧ (∀ i, c'.H i = (B1[i]?).join) ∧ (∀ i, c'.B i → i < B1.length) ∧ Rz c' r u

/-- Blocks that are kept at the end. -/
def keptM (B1 : List (Option Blk')) : Nat → Nat → Prop := fun i j => i = j ∧ ∃ b, (B1[i]?).join = some b
/-- **A contract with own blocks out of a walk.** -/
theorem ctrO_of_lwp {P : Program} {g : FuncId} {fn : Func} {c : Code} {B0 : List Blk'} {xs : List PV} {r : PV} {B1 : List (Option Blk')} (N : Nat) (hf : P.funcs[g]? = some fn) (hb : fn.body = some c) (hN : fn.ntmps = N) (hx : xs.length ≤ N)
    (h : lwp none P N B0.length c (fun e t => (e = .normal ∨ e = .ret) ∧ t.n ≤ B1.length ∧ (∀ i b, (B1[i]?).join = some b → t.H i = some b) ∧ ∃ r0 vis, ResOk P N fn t r0 ∧ (∀ i ∈ vis, (B1[i]?).join = none) ∧ Tr (keptM B1) t.H vis r0 r) ⟨args xs, fun i => B0[i]?, B0.length⟩) : CtrO P g B0 xs r B1 := by
  intro c0 vs hs hH hB hxs
  obtain ⟨hlen, hget⟩ := RzL_get xs vs.toList hxs
  refine calls_rf (R := none) (m := 0) (callsIn_of_wp_marks hf hb trivial ?_)
  have ts : TSim c0 (args xs) { tmps := vs ++ Array.replicate (fn.ntmps - vs.size) undef, defers := [] } N := by
    have hsz : vs.size = xs.length := by simpa using hlen
    refine ⟨by simp; omega, fun t => ?_⟩
    have := hget t
    simp only [args]
    rcases Nat.lt_or_ge t vs.size with h1 | h1
    · rw [Array.getD_eq_getD_getElem?, Array.getElem?_append_left h1]
      rw [List.getD_eq_getElem?_getD] at this
      simpa using this
    · rw [List.getD_eq_getElem?_getD, List.getElem?_eq_none (by omega)]
      simp [Rz]
  refine wpIn_mono (h 0 c0 _ hs ts (funext hH) (fun i hi => (hB i).1 hi)) ?_
  rintro e a' w' ⟨t, x', ⟨he, hn, hk, r0, vis, hr, hv, htr⟩, rfl, hR⟩
  have key : LeavesInM (rf none) 0 P fn a'.tmps (fun e w' => ∃ c' u, e = .returned u ∧ c'.w = w' ∧ Ext c0 c' ∧ HSim c' ∧ (∀ i, c'.H i = (B1[i]?).join) ∧ (∀ i, c'.B i → i < B1.length) ∧ Rz c' r u) a'.defers .returning x'.w := by
    refine leave_of (hR.ext.full (fun i hi => (hB i).1 hi) hs) hs hR.hs hR.ts hR.heap hR.defers rfl hr ?_
    intro y' u hts hE hsy hHy hBy hu
    have hYH : y'.H = t.H := hHy.trans hR.heap
    have hbn : ∀ i, y'.B i → i < t.n := fun i hi => hR.born i (by rw [← hBy]; exact hi)
    have hless : Less t ⟨fun _ => .junk, fun i => (B1[i]?).join, B1.length⟩ := ⟨fun _ _ _ _ => by simp [Rz], hk, hn⟩
    have hR2 := hless.reach (P := P) hsy hts hYH hbn
    have hu' : Rz { y' with H := fun i => (B1[i]?).join } r u := by
      have hown : ∀ k j, ({ y' with H := fun i => (B1[i]?).join } : Cx).av k j → y'.av k j := by
        rintro k j (h1 | ⟨i, b, h1, h2, h3⟩)
        · exact .inl h1
        · exact .inr ⟨i, b, by rw [hYH]; exact hk i b h1, h2, h3⟩
      refine htr y' _ u hsy (fun i _ => by rw [hYH]) ⟨rfl, ?_⟩ (fun k j h1 h2 => h1 (hown k j h2)) ?_ hu
      · rintro i _ ⟨rfl, b, hb'⟩ hB'
        refine ⟨hB', rfl, fun x hx => ⟨x, ?_, rfl, rfl⟩⟩
        rw [hYH]
        exact hk i x hx
      · rintro i hi x hx j hj (h1 | ⟨m, y, h1, h2, h3⟩)
        · exact hsy.Vown i x hx _ (Nat.le_add_right _ _) h1
        · have h4 := hk m y h1
          have := hsy.inj m i y x (by rw [hYH]; exact h4) hx h2
          subst this
          have h5 := hv m hi
          have h1' : (B1[m]?).join = some y := h1
          rw [h5] at h1'
          cases h1'
    exact ⟨{ y' with H := fun i => (B1[i]?).join }, u, rfl, rfl, hE.trans hR2.ext hs, hR2.hs, fun _ => rfl, hR2.born, hu'⟩
  rcases he with rfl | rfl
  · exact key
  · exact key

/-! ### The call -/
/-- The number that the callee's block m has with the caller. -/
def numO (ρ : List Nat) (n m : Nat) : Nat := if m < ρ.length then ρ.getD m 0 else n + (m - ρ.length)
/-- From caller to callee, and back. -/
def inM (ρ : List Nat) : Nat → Nat → Prop := fun i m => ρ[m]? = some i
def outM (ρ : List Nat) (n : Nat) (k : Nat) : Nat → Nat → Prop := fun m j => m < k ∧ numO ρ n m = j
open Classical in
/-- **A call by contract that is handed own blocks ρ, and own slices vis that are only read.** -/
theorem OpOk.callO {P : Program} {N : Nat} {o : Oper} {T : Nat → PV} {H H' : Nat → Option Blk'} {n : Nat} (ρ vis : List Nat) {g : FuncId} [Ent P g] {f : Operand} {as : Array Operand} {ts : Array TypeId} {fs cs xs : List PV} {r v : PV} {B0 : List Blk'} {B1 : List (Option Blk')}
    (ho : o.op = .call { callee := .value f, args := as, argTypes := ts }) (hd : ∀ d, o.dst = some d → d < N) (hf : ev T f = .fn (.func g) fs cs)
    (hlen : ρ.length = B0.length) (hnd : ρ.Nodup) (hdis : ∀ i ∈ vis, i ∉ ρ) (hB0 : ∀ (m : Nat) (b0 : Blk'), B0[m]? = some b0 → ∃ b, H (ρ.getD m 0) = some b ∧ BlkTr (inM ρ) H vis b b0)
    (hx : TrL (inM ρ) H vis (fs ++ as.toList.map (ev T) ++ cs) xs) (hc : CtrO P g B0 xs r B1) (hk : B0.length ≤ B1.length)
    (hout : ∀ m, m < B1.length → match (B1[m]?).join with
      | none => H' (numO ρ n m) = none
      | some b => ∃ b', H' (numO ρ n m) = some b' ∧ BlkTr (outM ρ n B1.length) (fun _ => none) [] b b')
    (hvis : ∀ i ∈ vis, H' i = freeze' H vis i) (hfr : ∀ i, i ∉ ρ → i ∉ vis → ¬ (n ≤ i ∧ i < n + (B1.length - B0.length)) → H' i = H i)
    (hv : Tr (outM ρ n B1.length) (fun _ => none) [] r v) : OpOk P N o T H n v H' (n + (B1.length - B0.length)) [] (vis ++ ρ ++ (List.range (B1.length - B0.length)).map (n + ·)) := by
  have memW : ∀ i, i ∈ vis ++ ρ ++ (List.range (B1.length - B0.length)).map (n + ·) ↔ i ∈ vis ∨ i ∈ ρ ∨ (n ≤ i ∧ i < n + (B1.length - B0.length)) := by
    intro i
    simp only [List.mem_append, List.mem_map, List.mem_range]
    constructor
    · rintro ((h | h) | ⟨q, h1, rfl⟩)
      · exact .inl h
      · exact .inr (.inl h)
      · exact .inr (.inr ⟨by omega, by omega⟩)
    · rintro (h | h | ⟨h1, h2⟩)
      · exact .inl (.inl h)
      · exact .inl (.inr h)
      · exact .inr ⟨i - n, by omega, by omega⟩
  refine ⟨by omega, fun i hi => ?_, fun i h1 h2 => (memW i).2 (.inr (.inr ⟨h1, h2⟩)), hd, fun c a T2 hs ht hT hH hBn K Q hK => ?_⟩
  · have h1 := fun h => hi ((memW i).2 h)
    exact hfr i (fun h => h1 (.inr (.inl h))) (fun h => h1 (.inl h)) (fun h => h1 (.inr (.inr h)))
  -- the arguments
  have hl : looks o = tmpsOf (f :: as.toList) := by
    unfold looks
    rw [ho]
    simp [Op.operands, Call.operands]
  rw [hl] at hT
  have hf2 : ev T2 f = .fn (.func g) fs cs := (ev_same hT (by simp)).trans hf
  have hm2 : as.toList.map (ev T2) = as.toList.map (ev T) := List.map_congr_left fun x hx => ev_same hT (by simp [hx])
  have hfv := ev_rz ht f
  rw [hf2] at hfv
  obtain ⟨fv, cv, hfe, hfs, hcs⟩ := hfv
  have hall : RzL c (fs ++ as.toList.map (ev T) ++ cs) (fv ++ as.map a.eval ++ cv).toList := by
    have h1 := RzL_map ht as.toList
    rw [hm2] at h1
    have := RzL_append (RzL_append hfs h1) hcs
    simpa using this
  have hHv : ∀ i ∈ vis, c.H i = H i := fun i hi => hH i (.inr ((memW i).2 (.inl hi)))
  have hHρ : ∀ i ∈ ρ, c.H i = H i := fun i hi => hH i (.inr ((memW i).2 (.inr (.inl hi))))
  -- facts of numbers
  have hρget : ∀ m, m < ρ.length → ρ[m]? = some (ρ.getD m 0) ∧ ρ.getD m 0 ∈ ρ := fun m hm => by
    have h1 : ρ[m]? = some (ρ.getD m 0) := by rw [List.getD_eq_getElem?_getD, List.getElem?_eq_getElem hm]; rfl
    exact ⟨h1, List.mem_of_getElem? h1⟩
  have hρin : ∀ i ∈ ρ, ∃ m, m < ρ.length ∧ ρ.getD m 0 = i := fun i hi => by
    obtain ⟨m, hm, rfl⟩ := List.getElem_of_mem hi
    exact ⟨m, hm, by rw [List.getD_eq_getElem?_getD, List.getElem?_eq_getElem hm]; rfl⟩
  have hρinj : ∀ m q, m < ρ.length → q < ρ.length → ρ.getD m 0 = ρ.getD q 0 → m = q := fun m q hm hq e => by
    have h1 := (hρget m hm).1
    have h2 := (hρget q hq).1
    rw [e, ← h2] at h1
    exact (List.getElem?_inj hm hnd).1 h1
  have hblk : ∀ m, m < ρ.length → ∃ b b0, B0[m]? = some b0 ∧ c.H (ρ.getD m 0) = some b ∧ BlkTr (inM ρ) H vis b b0 := fun m hm => by
    have h1 : B0[m]? = some (B0[m]'(by omega)) := List.getElem?_eq_getElem (by omega)
    obtain ⟨b, h2, h3⟩ := hB0 m _ h1
    exact ⟨b, _, h1, (hHρ _ (hρget m hm).2).trans h2, h3⟩
  have hborn : ∀ i ∈ ρ, c.B i := fun i hi => by
    obtain ⟨m, hm, rfl⟩ := hρin i hi
    obtain ⟨b, _, _, h2, _⟩ := hblk m hm
    exact hs.born _ _ h2
  have hρn : ∀ i ∈ ρ, ¬ (n ≤ i ∧ i < n + (B1.length - B0.length)) := fun i hi h => hBn i h.1 h.2 (hborn i hi)
  -- what is handed over stands still
  obtain ⟨he1, hs1, hav, hvisav⟩ := ext_freeze hs vis hHv
  generalize hc1 : ({ c with H := over c.H (freeze' H vis) vis } : Cx) = c1 at he1 hs1 hav hvisav
  have hc1H : ∀ i, i ∉ vis → c1.H i = c.H i := fun i hi => by
    rw [← hc1]; show over _ _ _ i = _; simp only [over]; rw [if_neg (by simpa using hi)]
  have hc1φ : c1.φ = c.φ := by rw [← hc1]
  have hc1V : c1.V = c.V := by rw [← hc1]
  have hρv : ∀ i ∈ ρ, i ∉ vis := fun i hi h => hdis i h hi
  -- the callee's context
  let d : Cx := ⟨c.w, fun m => B0[m]?, fun m => m < B0.length, fun m => c.φ (ρ.getD m 0), fun k j => c.V k j ∨ ∃ i b, i ∉ ρ ∧ c1.H i = some b ∧ (c.φ i).1 = k ∧ (c.φ i).2 + b.lo ≤ j⟩
  have hdav : ∀ k j, d.av k j ↔ c1.av k j := by
    intro k j
    constructor
    · rintro ((h | ⟨i, b, h1, h2, h3, h4⟩) | ⟨m, b0, h1, h2, h3⟩)
      · exact .inl (by rw [hc1V]; exact h)
      · exact .inr ⟨i, b, h2, by rw [hc1φ]; exact h3, by rw [hc1φ]; exact h4⟩
      · have h1' : B0[m]? = some b0 := h1
        have hm : m < ρ.length := by rw [hlen]; exact (List.getElem?_eq_some_iff.1 h1').1
        obtain ⟨b, b0', e1, e2, e3⟩ := hblk m hm
        rw [h1'] at e1; injection e1 with e1; subst e1
        refine .inr ⟨ρ.getD m 0, b, (hc1H _ (hρv _ (hρget m hm).2)).trans e2, by rw [hc1φ]; exact h2, ?_⟩
        rw [hc1φ, ← e3.lo]
        exact h3
    · rintro (h | ⟨i, b, h1, h2, h3⟩)
      · exact .inl (.inl (by rw [← hc1V]; exact h))
      · rw [hc1φ] at h2 h3
        by_cases hi : i ∈ ρ
        · obtain ⟨m, hm, rfl⟩ := hρin i hi
          obtain ⟨b', b0, e1, e2, e3⟩ := hblk m hm
          rw [hc1H _ (hρv _ hi), e2] at h1
          injection h1 with h1; subst h1
          exact .inr ⟨m, b0, e1, h2, by rw [e3.lo]; exact h3⟩
        · exact .inl (.inr ⟨i, b, hi, h1, h2, h3⟩)
  have hcav : ∀ k j, ¬ c.av k j → ¬ d.av k j := fun k j h1 h2 => (hav k j).elim h1 fun h3 => h3 ((hdav k j).1 h2)
  have hvisd : ∀ i ∈ vis, ∀ x, c.H i = some x → ∀ j, j < x.cells.length → ¬ d.av (c.φ i).1 ((c.φ i).2 + j) := fun i hi x hx j hj h => hvisav i hi x hx j hj ((hdav _ _).1 h)
  have hcor : Cor (inM ρ) c d := ⟨rfl, fun i m (hm : ρ[m]? = some i) _ => by
    have hml : m < ρ.length := (List.getElem?_eq_some_iff.1 hm).1
    have hi : ρ.getD m 0 = i := by rw [List.getD_eq_getElem?_getD, hm]; rfl
    refine ⟨show m < B0.length by omega, by show c.φ (ρ.getD m 0) = _; rw [hi], fun x hx => ?_⟩
    obtain ⟨b, b0, e1, e2, e3⟩ := hblk m hml
    have hx' : B0[m]? = some x := hx
    rw [hx'] at e1; injection e1 with e1; subst e1
    exact ⟨b, by rw [← hi]; exact e2, e3.gen.symm, e3.es.symm⟩⟩
  have hsd : HSim d := by
    refine ⟨fun m b0 h => ?_, fun m b0 h => ?_, fun m q b b' h1 h2 e => ?_, fun k j h => ?_, fun m b0 h j hj hV => ?_⟩
    · exact (List.getElem?_eq_some_iff.1 (show B0[m]? = some b0 from h)).1
    · have h' : B0[m]? = some b0 := h
      have hm : m < ρ.length := by rw [hlen]; exact (List.getElem?_eq_some_iff.1 h').1
      obtain ⟨b, b0', e1, e2, e3⟩ := hblk m hm
      rw [h'] at e1; injection e1 with e1; subst e1
      exact (hs.blk _ b e2).tr e3 hs hHv hcor hcav hvisd
    · have hm : m < ρ.length := by rw [hlen]; exact (List.getElem?_eq_some_iff.1 (show B0[m]? = some b from h1)).1
      have hq : q < ρ.length := by rw [hlen]; exact (List.getElem?_eq_some_iff.1 (show B0[q]? = some b' from h2)).1
      obtain ⟨x, _, _, e2, _⟩ := hblk m hm
      obtain ⟨y, _, _, e4, _⟩ := hblk q hq
      exact hρinj m q hm hq (hs.inj _ _ x y e2 e4 e)
    · rcases h with h | ⟨i, b, _, h2, h3, _⟩
      · exact hs.Vlt k j h
      · have := hs1.lt h2
        rw [hc1φ, h3] at this
        rwa [← hc1] at this
    · have hm : m < ρ.length := by rw [hlen]; exact (List.getElem?_eq_some_iff.1 (show B0[m]? = some b0 from h)).1
      obtain ⟨x, _, _, e2, _⟩ := hblk m hm
      rcases hV with hV | ⟨i, b, h1, h2, h3, h4⟩
      · exact hs.Vown _ x e2 j hj hV
      · have h5 := hs1.inj i (ρ.getD m 0) b x h2 ((hc1H _ (hρv _ (hρget m hm).2)).trans e2) (by rw [hc1φ]; exact h3)
        exact h1 (h5 ▸ (hρget m hm).2)
  have hargs : RzL d xs (fv ++ as.map a.eval ++ cv).toList := hx.rzl hs hHv hcor hcav hvisd hall
  unfold Oper.wp
  rw [call_run ho hfe, Oper.upon_enter]
  refine (hc d _ hsd (fun _ => rfl) (fun _ => Iff.rfl) hargs).mono ?_
  rintro e w' ⟨d', u, rfl, rfl, hE, hs', hH', hB', hu⟩
  -- numbers
  have hnum_old : ∀ m, m < ρ.length → numO ρ n m = ρ.getD m 0 := fun m hm => if_pos hm
  have hnum_new : ∀ m, ¬ m < ρ.length → numO ρ n m = n + (m - ρ.length) := fun m hm => if_neg hm
  have hnum_inj : ∀ m q, m < B1.length → q < B1.length → numO ρ n m = numO ρ n q → m = q := by
    intro m q hm hq e
    by_cases h1 : m < ρ.length <;> by_cases h2 : q < ρ.length
    · rw [hnum_old m h1, hnum_old q h2] at e
      exact hρinj m q h1 h2 e
    · rw [hnum_old m h1, hnum_new q h2] at e
      exact absurd ⟨by omega, by omega⟩ (hρn _ (hρget m h1).2)
    · rw [hnum_new m h1, hnum_old q h2] at e
      exact absurd ⟨by omega, by omega⟩ (hρn _ (hρget q h2).2)
    · rw [hnum_new m h1, hnum_new q h2] at e
      omega
  have hnum_W : ∀ m, m < B1.length → numO ρ n m ∈ ρ ∨ (n ≤ numO ρ n m ∧ numO ρ n m < n + (B1.length - B0.length)) := by
    intro m hm
    by_cases h1 : m < ρ.length
    · rw [hnum_old m h1]; exact .inl (hρget m h1).2
    · rw [hnum_new m h1]; exact .inr ⟨by omega, by omega⟩
  have hW_num : ∀ i, i ∈ ρ ∨ (n ≤ i ∧ i < n + (B1.length - B0.length)) → ∃ m, m < B1.length ∧ numO ρ n m = i := by
    rintro i (hi | ⟨h1, h2⟩)
    · obtain ⟨m, hm, rfl⟩ := hρin i hi
      exact ⟨m, by omega, hnum_old m hm⟩
    · refine ⟨ρ.length + (i - n), by omega, ?_⟩
      rw [hnum_new _ (by omega)]
      omega
  let φ' : Nat → Nat × Nat := fun i => if h : ∃ m, m < B1.length ∧ numO ρ n m = i then d'.φ h.choose else c.φ i
  have hφ_num : ∀ m, m < B1.length → φ' (numO ρ n m) = d'.φ m := by
    intro m hm
    have h : ∃ q, q < B1.length ∧ numO ρ n q = numO ρ n m := ⟨m, hm, rfl⟩
    show (if h : ∃ q, q < B1.length ∧ numO ρ n q = numO ρ n m then d'.φ h.choose else c.φ (numO ρ n m)) = _
    rw [dif_pos h]
    rw [hnum_inj _ _ h.choose_spec.1 hm h.choose_spec.2]
  have hφ_else : ∀ i, i ∉ ρ → ¬ (n ≤ i ∧ i < n + (B1.length - B0.length)) → φ' i = c.φ i := by
    intro i h1 h2
    have h : ¬ ∃ q, q < B1.length ∧ numO ρ n q = i := by
      rintro ⟨q, hq, rfl⟩
      rcases hnum_W q hq with h | h
      · exact h1 h
      · exact h2 h
    exact dif_neg h
  let W := vis ++ ρ ++ (List.range (B1.length - B0.length)).map (n + ·)
  let x : Cx := ⟨d'.w, over c.H H' W, fun i => c.B i ∨ (n ≤ i ∧ i < n + (B1.length - B0.length)), φ', c.V⟩
  have hxH_W : ∀ i, (i ∈ vis ∨ i ∈ ρ ∨ (n ≤ i ∧ i < n + (B1.length - B0.length))) → x.H i = H' i := fun i hi => by
    show over c.H H' W i = _
    simp only [over]
    rw [if_pos (by rw [List.contains_iff_mem]; exact (memW i).2 hi)]
  have hxH_else : ∀ i, ¬ (i ∈ vis ∨ i ∈ ρ ∨ (n ≤ i ∧ i < n + (B1.length - B0.length))) → x.H i = c.H i := fun i hi => by
    show over c.H H' W i = _
    simp only [over]
    rw [if_neg (by rw [List.contains_iff_mem]; exact fun h => hi ((memW i).1 h))]
  -- one of three
  have hx3 : ∀ i b, x.H i = some b → (∃ m b', m < B1.length ∧ numO ρ n m = i ∧ d'.H m = some b' ∧ BlkTr (outM ρ n B1.length) (fun _ => none) [] b' b) ∨
      (∃ y, i ∉ ρ ∧ ¬ (n ≤ i ∧ i < n + (B1.length - B0.length)) ∧ c.H i = some y ∧ c1.H i = some b ∧ y.gen = b.gen ∧ y.es = b.es ∧ y.lo ≤ b.lo ∧ y.cells = b.cells) := by
    intro i b hb
    by_cases h1 : i ∈ ρ ∨ (n ≤ i ∧ i < n + (B1.length - B0.length))
    · obtain ⟨m, hm, rfl⟩ := hW_num i h1
      rw [hxH_W _ (.inr h1)] at hb
      have h2 := hout m hm
      have h3 := hH' m
      cases hj : (B1[m]?).join with
      | none => rw [hj] at h2; simp only at h2; rw [h2] at hb; cases hb
      | some b' =>
        rw [hj] at h2 h3
        obtain ⟨b2, h4, h5⟩ := h2
        rw [h4] at hb; injection hb with hb; subst hb
        exact .inl ⟨m, b', hm, rfl, h3, h5⟩
    · refine .inr ?_
      have h1' : i ∉ ρ ∧ ¬ (n ≤ i ∧ i < n + (B1.length - B0.length)) := ⟨fun h => h1 (.inl h), fun h => h1 (.inr h)⟩
      by_cases h2 : i ∈ vis
      · rw [hxH_W i (.inl h2), hvis i h2] at hb
        have h3 : c1.H i = some b := by
          rw [← hc1]; show over _ _ _ i = _; simp only [over]; rw [if_pos (by simpa using h2)]; exact hb
        simp only [freeze'] at hb
        rw [if_pos (by simpa using h2)] at hb
        obtain ⟨y, h4, rfl⟩ := Option.map_eq_some_iff.1 hb
        exact ⟨y, h1'.1, h1'.2, (hHv i h2).trans h4, h3, rfl, rfl, Nat.le_max_left _ _, rfl⟩
      · rw [hxH_else i (fun h => h.elim h2 (fun h => h1 h))] at hb
        exact ⟨b, h1'.1, h1'.2, hb, (hc1H i h2).trans hb, rfl, rfl, Nat.le_refl _, rfl⟩
  have hother : ∀ k, k < c.w.heap.size → (∀ m b0, d.H m = some b0 → (d.φ m).1 ≠ k) → d'.w.heap[k]? = c.w.heap[k]? := fun k hk h => hE.other k hk h
  have hstill : ∀ i y, c.H i = some y → i ∉ ρ → d'.w.heap[(c.φ i).1]? = c.w.heap[(c.φ i).1]? := by
    intro i y hy hi
    refine hother _ (hs.lt hy) fun m b0 h e => ?_
    have hm : m < ρ.length := by rw [hlen]; exact (List.getElem?_eq_some_iff.1 (show B0[m]? = some b0 from h)).1
    obtain ⟨z, _, _, e2, _⟩ := hblk m hm
    have := hs.inj _ _ z y e2 hy e
    exact hi (this ▸ (hρget m hm).2)
  have hExt : Ext c x := by
    refine ⟨hE.os, hE.tape, hE.output, hE.size, rfl, fun i h => .inl h, fun k hk h => ?_, fun i b hb j hj => ?_, fun i b hb => ?_, fun i b hB hb => ?_⟩
    · refine hother k hk fun m b0 hm => ?_
      have hm' : m < ρ.length := by rw [hlen]; exact (List.getElem?_eq_some_iff.1 (show B0[m]? = some b0 from hm)).1
      obtain ⟨z, _, _, e2, _⟩ := hblk m hm'
      exact h _ z e2
    · show d'.w.cell? _ = _
      by_cases hi : i ∈ ρ
      · obtain ⟨m, hm, rfl⟩ := hρin i hi
        obtain ⟨z, b0, e1, e2, e3⟩ := hblk m hm
        rw [hb] at e2; injection e2 with e2; subst e2
        exact hE.prot m b0 e1 j (by show j < (c.φ (ρ.getD m 0)).2 + b0.lo; rw [e3.lo]; exact hj)
      · simp only [World.cell?, hstill i b hb hi]
    · rcases hx3 i b hb with ⟨m, b', hm, rfl, h1, h2⟩ | ⟨y, h1, h2, h3, _, _, _, h4, _⟩
      · show (∃ y, c.H _ = some y ∧ (c.φ _).1 = (φ' _).1 ∧ _ ≤ (φ' _).2 + b.lo) ∨ _ ≤ (φ' _).1
        rw [hφ_num m hm]
        rcases hE.mine m b' h1 with ⟨y0, e1, e2, e3⟩ | e1
        · have hm' : m < ρ.length := by rw [hlen]; exact (List.getElem?_eq_some_iff.1 (show B0[m]? = some y0 from e1)).1
          obtain ⟨z, b0, e4, e5, e6⟩ := hblk m hm'
          rw [show B0[m]? = some y0 from e1] at e4; injection e4 with e4; subst e4
          rw [hnum_old m hm']
          exact .inl ⟨z, e5, e2, by rw [h2.lo, ← e6.lo]; exact e3⟩
        · exact .inr e1
      · refine .inl ⟨y, h3, ?_, ?_⟩
        · show _ = (φ' i).1; rw [hφ_else i h1 h2]
        · show _ ≤ (φ' i).2 + b.lo; rw [hφ_else i h1 h2]; omega
    · rcases hx3 i b hb with ⟨m, b', hm, rfl, h1, h2⟩ | ⟨y, h1, h2, h3, _, h5, h6, _⟩
      · have hm' : m < ρ.length := by
          rcases Nat.lt_or_ge m ρ.length with h | h
          · exact h
          · rw [hnum_new m (by omega)] at hB
            exact absurd hB (hBn _ (by omega) (by omega))
        obtain ⟨z, b0, e4, e5, e6⟩ := hblk m hm'
        obtain ⟨y0, f1, f2, f3⟩ := hE.gen m b' (show m < B0.length by omega) h1
        rw [show d.H m = B0[m]? from rfl, e4] at f1; injection f1 with f1; subst f1
        have hφ0 : d.φ m = c.φ (ρ.getD m 0) := rfl
        refine ⟨z, by rw [hnum_old m hm']; exact e5, by rw [h2.gen, ← e6.gen]; exact f2, fun e => ?_⟩
        obtain ⟨g1, g2, g3⟩ := f3 (by rw [e6.gen, e, h2.gen])
        show φ' _ = _ ∧ _ ∧ msize c.w _ ≤ msize d'.w _
        rw [hφ_num m hm, hnum_old m hm']
        refine ⟨g1, by rw [h2.es, ← e6.es]; exact g2, ?_⟩
        exact g3
      · refine ⟨y, h3, Nat.le_of_eq h5, fun _ => ?_⟩
        show φ' i = _ ∧ _ ∧ msize c.w _ ≤ msize d'.w _
        rw [hφ_else i h1 h2]
        refine ⟨rfl, h6.symm, ?_⟩
        simp only [msize, hstill i y h3 h1]
        exact Nat.le_refl _
  have hxav : ∀ k j, ¬ d'.av k j → ¬ x.av k j := by
    rintro k j h (h1 | ⟨i, b, h1, h2, h3⟩)
    · exact h (.inl (by rw [hE.V]; exact .inl h1))
    · rcases hx3 i b h1 with ⟨m, b', hm, rfl, e1, e2⟩ | ⟨y, e1, e2, _, e3, _⟩
      · have h2' : (φ' (numO ρ n m)).1 = k := h2
        have h3' : (φ' (numO ρ n m)).2 + b.lo ≤ j := h3
        rw [hφ_num m hm] at h2' h3'
        exact h (.inr ⟨m, b', e1, h2', by rw [← e2.lo]; exact h3'⟩)
      · have h2' : (φ' i).1 = k := h2
        have h3' : (φ' i).2 + b.lo ≤ j := h3
        rw [hφ_else i e1 e2] at h2' h3'
        exact h (.inl (by rw [hE.V]; exact .inr ⟨i, b, e1, e3, h2', h3'⟩))
  have hcor2 : Cor (outM ρ n B1.length) d' x := ⟨rfl, fun m j hmj hB => by
    obtain ⟨hm, rfl⟩ := hmj
    refine ⟨?_, hφ_num m hm, fun b hb => ?_⟩
    · rcases hnum_W m hm with h | h
      · exact .inl (hborn _ h)
      · exact .inr h
    · rcases hx3 _ b hb with ⟨q, b', hq, e, h1, h2⟩ | ⟨y, h1, h2, _⟩
      · obtain rfl := hnum_inj q m hq hm e
        exact ⟨b', h1, h2.gen.symm, h2.es.symm⟩
      · rcases hnum_W m hm with h | h
        · exact absurd h h1
        · exact absurd h h2⟩
  have hsx : HSim x := by
    have hfresh : ∀ m b', d'.H m = some b' → m < B1.length → ∀ i y, c.H i = some y → i ∉ ρ → (d'.φ m).1 ≠ (c.φ i).1 := by
      intro m b' h1 hm i y hy hi e
      rcases hE.mine m b' h1 with ⟨y0, e1, e2, _⟩ | e1
      · have hm' : m < ρ.length := by rw [hlen]; exact (List.getElem?_eq_some_iff.1 (show B0[m]? = some y0 from e1)).1
        obtain ⟨z, b0, e4, e5, e6⟩ := hblk m hm'
        have := hs.inj _ _ z y e5 hy (by show (d.φ m).1 = _; rw [e2, e])
        exact hi (this ▸ (hρget m hm').2)
      · have := hs.lt hy
        rw [← e] at this
        have e1' : c.w.heap.size ≤ (d'.φ m).1 := e1
        omega
    refine ⟨fun i b hb => ?_, fun i b hb => ?_, fun i j b b' h1 h2 e => ?_, fun k j h => Nat.lt_of_lt_of_le (hs.Vlt k j h) hE.size, fun i b hb j hj hV => ?_⟩
    · rcases hx3 i b hb with ⟨m, b', hm, rfl, h1, h2⟩ | ⟨y, _, _, h3, _⟩
      · rcases hnum_W m hm with h | h
        · exact .inl (hborn _ h)
        · exact .inr h
      · exact .inl (hs.born i y h3)
    · rcases hx3 i b hb with ⟨m, b', hm, rfl, h1, h2⟩ | ⟨y, h1, h2, h3, _, _, h6, _, h7⟩
      · show Lies x d'.w.heap[(φ' _).1]? (φ' _).2 b
        rw [hφ_num m hm]
        exact (hs'.blk m b' h1).tr h2 hs' (fun _ h => by cases h) hcor2 hxav (fun _ h => by cases h)
      · show Lies x d'.w.heap[(φ' _).1]? (φ' _).2 b
        rw [hφ_else i h1 h2, hstill i y h3 h1]
        have := (hs.blk i y h3).ext hExt
        unfold Lies at this ⊢
        rwa [h7, h6] at this
    · have e' : (φ' i).1 = (φ' j).1 := e
      rcases hx3 i b h1 with ⟨m, b1, hm, rfl, f1, f2⟩ | ⟨y, f1, f2, f3, _⟩ <;> rcases hx3 j b' h2 with ⟨q, b2, hq, rfl, g1, g2⟩ | ⟨z, g1, g2, g3, _⟩
      · rw [hφ_num m hm, hφ_num q hq] at e'
        rw [hs'.inj m q b1 b2 f1 g1 e']
      · rw [hφ_num m hm, hφ_else j g1 g2] at e'
        exact absurd e' (hfresh m b1 f1 hm j z g3 g1)
      · rw [hφ_else i f1 f2, hφ_num q hq] at e'
        exact absurd e'.symm (hfresh q b2 g1 hq i y f3 f1)
      · rw [hφ_else i f1 f2, hφ_else j g1 g2] at e'
        exact hs.inj i j y z f3 g3 e'
    · rcases hx3 i b hb with ⟨m, b', hm, rfl, h1, h2⟩ | ⟨y, h1, h2, h3, _⟩
      · have hj' : (φ' (numO ρ n m)).2 ≤ j := hj
        have hV' : c.V (φ' (numO ρ n m)).1 j := hV
        rw [hφ_num m hm] at hj' hV'
        exact hs'.Vown m b' h1 j hj' (by rw [hE.V]; exact .inl hV')
      · have hj' : (φ' i).2 ≤ j := hj
        have hV' : c.V (φ' i).1 j := hV
        rw [hφ_else i h1 h2] at hj' hV'
        exact hs.Vown i y h3 j hj' hV'
  exact hK x u hExt hsx (fun i => Iff.rfl) rfl (hv d' x u hs' (fun _ h => by cases h) hcor2 hxav (fun _ h => by cases h) hu)
end Go.Proofs.Ythnjhhohfhnhgaa
