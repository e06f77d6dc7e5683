/- The logic of pure values: loops over a function. -/
import Derived.Test.YthnjhhohfhnhgaaPvMap
namespace Go.Proofs.Ythnjhhohfhnhgaa
open Go Go.RowKit

/-! ### Blocks that are neither cells nor maps are turned -/
def isOdd : Obj → Bool
  | .loop .. | .deferred .. | .mapIter .. => true
  | _ => false
def isIt : Obj → Bool
  | .mapIter .. => true
  | _ => false
theorem isIt_odd {o : Obj} (h : isIt o = true) : isOdd o = true := by cases o <;> simp_all [isIt, isOdd]
theorem odd_cell {w : World} {k : Nat} {o : Obj} (h : w.heap[k]? = some o) (ho : isOdd o = true) (j : Nat) : w.cell? ⟨k, j, none⟩ = none := by
  cases o <;> simp [isOdd] at ho <;> simp [World.cell?, h]
theorem odd_own {c : Cx} (hs : HSim c) {k : Nat} {o : Obj} (h : c.w.heap[k]? = some o) (ho : isOdd o = true) : ∀ i b, c.H i = some b → (c.φ i).1 ≠ k := by
  intro i b hb e
  rcases hs.blk i b hb with ⟨_, cs, ty, h1, _⟩ | ⟨_, es, cl, h1, _⟩
  · rw [e, h] at h1; injection h1 with h1; subst h1; cases ho
  · rw [e, h] at h1; injection h1 with h1; subst h1; cases ho
theorem odd_turn {x y : Cx} {W : World} {row : Option Nat} (hg : y.w.grownBy W row) (hr : ∀ r, row = some r → x.w.heap.size ≤ r ∧ ∃ o, y.w.heap[r]? = some o ∧ isOdd o = true) (hs : HSim y) (hx : HSim x) (he : Ext x y) :
    Ext x { y with w := W } ∧ HSim { y with w := W } ∧ Kept y { y with w := W } := by
  have hsame : ∀ k, k < y.w.heap.size → (∀ o, y.w.heap[k]? = some o → isOdd o = false) → W.heap[k]? = y.w.heap[k]? := fun k hk ho => hg.block k hk fun e => by
    obtain ⟨_, o, h1, h2⟩ := hr k e.symm
    rw [ho o h1] at h2; cases h2
  have hlt : ∀ k, k < x.w.heap.size → W.heap[k]? = y.w.heap[k]? := fun k hk => hg.block k (Nat.lt_of_lt_of_le hk he.size) fun e => by
    have := (hr k e.symm).1
    omega
  have hownS : ∀ i b, y.H i = some b → W.heap[(y.φ i).1]? = y.w.heap[(y.φ i).1]? := fun i b hb => hsame _ (hs.lt hb) fun o ho => by
    cases h : isOdd o with
    | false => rfl
    | true => exact absurd rfl (odd_own hs ho h i b hb)
  have hk : Kept y { y with w := W } := by
    refine ⟨fun k j u hc ha => ⟨?_, ha⟩, fun k es cl hm ha => ⟨?_, ha⟩, fun i hi => hi, fun i b' _ hb => ⟨b', hb, Nat.le_refl _, fun _ => ⟨rfl, rfl, ?_⟩⟩⟩
    · have h1 : W.heap[k]? = y.w.heap[k]? := hsame k (cell_lt hc) fun o ho => by
        cases h : isOdd o with
        | false => rfl
        | true => rw [odd_cell ho h] at hc; cases hc
      show W.cell? _ = _
      simpa only [World.cell?, h1] using hc
    · refine (hsame k (Array.getElem?_eq_some_iff.1 hm).1 fun o ho => ?_).trans hm
      rw [hm] at ho; injection ho with ho; subst ho; rfl
    · show msize y.w _ ≤ msize W _
      simp only [msize, hownS i b' hb]
      exact Nat.le_refl _
  refine ⟨⟨hg.os.trans he.os, hg.tape.trans he.tape, hg.output.trans he.output, Nat.le_trans he.size hg.size, he.V, he.born, fun k hk' ho => (hlt k hk').trans (he.other k hk' ho), fun i b hb j hj => ?_, he.mine, fun i b' hB hb => ?_⟩, ⟨hs.born, fun i b hb => ?_, hs.inj, fun k j hV => Nat.lt_of_lt_of_le (hs.Vlt k j hV) hg.size, hs.Vown⟩, hk⟩
  · rw [← he.prot i b hb j hj]
    show W.cell? _ = _
    simp only [World.cell?, hlt _ (hx.lt hb)]
  · obtain ⟨b, h1, h2, h3⟩ := he.gen i b' hB hb
    refine ⟨b, h1, h2, fun e => ?_⟩
    obtain ⟨g1, g2, g3⟩ := h3 e
    refine ⟨g1, g2, Nat.le_trans g3 ?_⟩
    have := (hk.gen i b' (he.born i hB) hb)
    obtain ⟨b2, e1, _, e3⟩ := this
    rw [hb] at e1; injection e1 with e1; subst e1
    have := (e3 rfl).2.2
    rw [g1] at this
    exact this
  · show Lies _ W.heap[(y.φ i).1]? (y.φ i).2 b
    rw [hownS i b hb]
    exact (hs.blk i b hb).kept hk

/-! ### What an iterator owes -/
/-- What the loop's body keeps for the iterator. -/
def KpX (x : Cx) (W W' : World) : Prop :=
  (∀ k j, k < x.w.heap.size → ¬ x.av k j → W'.cell? ⟨k, j, none⟩ = W.cell? ⟨k, j, none⟩) ∧
  (∀ k, k < x.w.heap.size → (∀ j, ¬ x.av k j) → W'.heap[k]? = W.heap[k]?) ∧
  (∀ (k : Nat) (o : Obj), W.heap[k]? = some o → isIt o = true → W'.heap[k]? = some o) ∧ W.heap.size ≤ W'.heap.size
theorem KpX.trans {x : Cx} {A B C : World} (h : KpX x A B) (k : KpX x B C) : KpX x A C :=
  ⟨fun q j h1 h2 => (k.1 q j h1 h2).trans (h.1 q j h1 h2), fun q h1 h2 => (k.2.1 q h1 h2).trans (h.2.1 q h1 h2), fun q o h1 h2 => k.2.2.1 q o (h.2.2.1 q o h1 h2) h2, Nat.le_trans h.2.2.2 k.2.2.2⟩
theorem KpX.ext {x y z : Cx} {q : Nat} (he : Ext x y) (hz : ExtK q y z) (hs : HSim y) : KpX x y.w z.w := by
  refine ⟨fun k j h1 h2 => hz.cell (Nat.lt_of_lt_of_le h1 he.size) fun h => he.av h1 h2 (.inr h), fun k h1 h2 => hz.other k (Nat.lt_of_lt_of_le h1 he.size) fun i b hb e => ?_, fun k o ho h => ?_, hz.size⟩
  · exact he.av h1 (h2 _) (.inr ⟨i, b, hb, e, Nat.le_refl _⟩)
  · exact (hz.other k (Array.getElem?_eq_some_iff.1 ho).1 (odd_own hs ho (isIt_odd h))).trans ho
theorem KpX.turn {x : Cx} {W : World} {l : Nat} {o : Obj} (o' : Obj) (hl : x.w.heap.size ≤ l) (ho : W.heap[l]? = some o) (hn : isIt o = false) : KpX x W (W.putObj l o') := by
  refine ⟨fun k j h1 _ => ?_, fun k h1 _ => World.putObj_heap_other (by omega), fun k q hq h => ?_, by simp⟩
  · have : (W.putObj l o').heap[k]? = W.heap[k]? := World.putObj_heap_other (by omega)
    simp only [World.cell?, this]
  · have : k ≠ l := by
      intro e; subst e
      rw [ho] at hq; injection hq with hq; subst hq
      rw [hn] at h; cases h
    exact (World.putObj_heap_other this).trans hq
def AbidesIt (B : Nat) (J : List Nat → World → Prop) : Prop := ∀ s W W' row, J s W → W.grownBy W' row → (∀ r, row = some r → B ≤ r ∧ ∃ o, W.heap[r]? = some o ∧ isIt o = true) → J s W'
/-- **The contract of an iterator**: the function gf, with what the trees lbs tell captured, hands number i over (its values: el i) where Nx lets it, behind those that have come. -/
def SeqC (P : Program) (gf : FuncId) (lbs : List PV) (Nx : List Nat → Nat → Prop) (el : Nat → List PV) : Prop :=
  ∀ (x : Cx) (lb : Array Value), HSim x → RzL x lbs lb.toList →
    ∃ encs : Nat → Array Value, (∀ pre i, Nx pre i → RzL x (el i) (encs i).toList) ∧
      ∀ (m l : Nat) (J Jx : List Nat → World → Prop) (W : World), Below x.w.heap.size x.w W → AbidesIt W.heap.size J → AbidesIt W.heap.size Jx →
        (∀ m' pre i W1, Nx pre i → J pre W1 → YieldAt (rf none) m' P l (encs i) W1 fun e W' => (e = .returned (.bool true) ∧ J (pre ++ [i]) W' ∧ KpX x W1 W') ∨ (e = .returned (.bool false) ∧ Jx (pre ++ [i]) W')) →
        J [] W → CallsIn (rf none) m P gf (#[.func (.yield l) #[] #[]] ++ lb) W fun e W' => (∃ v, e = .returned v) ∧ ((∃ xs, (∀ i, ¬ Nx xs i) ∧ J xs W') ∨ ∃ pre, Jx pre W')

def putTs (T : Nat → PV) (l : List (Nat × PV)) : Nat → PV := l.foldl (fun T p => putT T (some p.1) p.2) T
theorem TSim.puts {c : Cx} {N : Nat} : ∀ (ps : List Nat) (vs : List PV) (us : List Value) {T : Nat → PV} {a : Act}, TSim c T a N → (∀ p ∈ ps, p < N) → RzL c vs us → TSim c (putTs T (ps.zip vs)) { tmps := (ps.zip us).foldl (fun t p => t.setIfInBounds p.1 p.2) a.tmps, defers := [] } N
  | [], _, _, _, _, h, _, _ => ⟨h.size, h.at_⟩
  | p :: ps, [], us, _, _, h, _, hl => by
    simp only [RzL] at hl
    subst hl
    exact ⟨h.size, h.at_⟩
  | p :: ps, v :: vs, us, T, a, h, hp, hl => by
    obtain ⟨u, us, rfl, h1, h2⟩ := hl
    have := TSim.puts ps vs us (h.put (some p) (fun t ht => by injection ht with ht; subst ht; exact hp p (by simp)) h1) (fun q hq => hp q (by simp [hq])) h2
    simpa [putTs, Act.put] using this

section
variable {P : Program} {N k0 : Nat} {Q : Exit → LSt → Prop} {s : LSt}
/-- How a round's body may be left. -/
def roundQ (Q : Exit → LSt → Prop) (s : LSt) (I : (Nat → Option Blk') → Nat → Prop) : Exit → LSt → Prop
  | .normal, t => ∃ t', LessR s.n t t' ∧ I t'.H t'.n
  | .ret, t => ∃ t', LessR s.n t t' ∧ Q .ret ⟨s.T, t'.H, t'.n⟩
  | .exit id, t => ∃ t', LessR s.n t t' ∧ Q (.exit id) ⟨s.T, t'.H, t'.n⟩
  | _, _ => False
theorem lwp_rangeFunc {g : Operand} {ps : Array Tmp} {assign body : Code} {gf : FuncId} [hent : Ent P gf] {lbs : List PV} {Nx : List Nat → Nat → Prop} {el : Nat → List PV} (hg : ev s.T g = .fn (.func gf) [] lbs) (hseq : SeqC P gf lbs Nx el)
    (hps : ∀ pre i, Nx pre i → (el i).length = ps.size) (hpN : ∀ p ∈ ps.toList, p < N) (I : List Nat → (Nat → Option Blk') → Nat → Prop) (h0 : I [] s.H s.n)
    (hbody : ∀ pre i H n, Nx pre i → I pre H n → ∀ (R : Option Nat) (K : LSt → Prop), (∀ t, lwp R P N s.n body (roundQ Q s (I (pre ++ [i]))) t → K t) → lwp R P N s.n assign (thenL K (fun _ _ => False)) ⟨putTs s.T (ps.toList.zip (el i)), H, n⟩)
    (hdone : ∀ pre H n, (∀ i, ¬ Nx pre i) → I pre H n → Q .normal ⟨s.T, H, n⟩) : lwp none P N k0 (.rangeFunc g ps assign body) Q s := by
  intro m x a hs ts hH hB
  have hv := ev_rz ts g
  rw [hg] at hv
  obtain ⟨fv, lb, hfe, hfs, hlb⟩ := hv
  obtain rfl : fv = #[] := by
    simp only [RzL] at hfs
    simpa using hfs
  obtain ⟨encs, henc, hcall⟩ := hseq x lb hs hlb
  refine wpIn_rangeFunc ?_
  intro fn _
  obtain ⟨rec, hrec⟩ : ∃ rec : LoopState → Option Code → Loop, rec = fun st pe => { state := st, pending := pe, fn, tmps := a.tmps, params := ps, assign, body, defers := x.w.heap.size } := ⟨_, rfl⟩
  obtain ⟨W1, hW1⟩ : ∃ W1, (x.w.alloc (.deferred (some []))).alloc (.loop (rec .ready none)) = W1 := ⟨_, rfl⟩
  have hL1 : W1.heap[x.w.heap.size + 1]? = some (.loop (rec .ready none)) := by
    rw [← hW1]; have := World.alloc_heap_new (x.w.alloc (.deferred (some []))) (.loop (rec .ready none)); rwa [World.size_alloc] at this
  have hK1 : W1.heap[x.w.heap.size]? = some (.deferred (some [])) := by
    rw [← hW1]; exact (Below.heap_alloc _ _ _ (by simp)).trans (World.alloc_heap_new x.w _)
  have hsz1 : W1.heap.size = x.w.heap.size + 2 := by rw [← hW1]; simp
  have hkp1 : Kp0 x.w W1 := by rw [← hW1]; exact ((Kp.refl _ x.w).alloc _).alloc _
  obtain ⟨he1, hs1⟩ := ext_kp hkp1 hs
  -- between two rounds
  let J : List Nat → World → Prop := fun pre W => ∃ y n', I pre y.H n' ∧ y.w = W ∧ Ext x y ∧ HSim y ∧ (∀ i, y.B i → i < n') ∧ W.heap[x.w.heap.size + 1]? = some (.loop (rec .ready none)) ∧ W.heap[x.w.heap.size]? = some (.deferred (some []))
  let Jx : List Nat → World → Prop := fun _ W => ∃ y n' c, ((c = Code.ret ∧ Q .ret ⟨s.T, y.H, n'⟩) ∨ ∃ id, c = Code.exit id ∧ Q (.exit id) ⟨s.T, y.H, n'⟩) ∧ y.w = W ∧ Ext x y ∧ HSim y ∧ (∀ i, y.B i → i < n') ∧
    W.heap[x.w.heap.size + 1]? = some (.loop (rec .done (some c))) ∧ W.heap[x.w.heap.size]? = some (.deferred (some []))
  have keepO : ∀ {W W' : World} {row : Option Nat} {k : Nat} {o : Obj}, W.heap[k]? = some o → isIt o = false → W.grownBy W' row → (∀ r, row = some r → W1.heap.size ≤ r ∧ ∃ o, W.heap[r]? = some o ∧ isIt o = true) → W'.heap[k]? = some o := by
    intro W W' row k o ho hi hg' hr
    refine (hg'.block k (Array.getElem?_eq_some_iff.1 ho).1 fun e => ?_).trans ho
    obtain ⟨_, o', h1, h2⟩ := hr k e.symm
    rw [ho] at h1; injection h1 with h1; subst h1
    rw [hi] at h2; cases h2
  have hrow : ∀ {y : Cx} {row : Option Nat}, (∀ r, row = some r → W1.heap.size ≤ r ∧ ∃ o, y.w.heap[r]? = some o ∧ isIt o = true) → ∀ r, row = some r → x.w.heap.size ≤ r ∧ ∃ o, y.w.heap[r]? = some o ∧ isOdd o = true := by
    intro y row hr r e
    obtain ⟨h1, o, h2, h3⟩ := hr r e
    exact ⟨by omega, o, h2, isIt_odd h3⟩
  have hJ : AbidesIt W1.heap.size J := by
    rintro pre W W' row ⟨y, n', hI, rfl, he, hsy, hb, hl, hd⟩ hg' hr
    obtain ⟨g1, g2, _⟩ := odd_turn hg' (hrow hr) hsy hs he
    exact ⟨{ y with w := W' }, n', hI, rfl, g1, g2, hb, keepO hl rfl hg' hr, keepO hd rfl hg' hr⟩
  have hJx : AbidesIt W1.heap.size Jx := by
    rintro pre W W' row ⟨y, n', c, hI, rfl, he, hsy, hb, hl, hd⟩ hg' hr
    obtain ⟨g1, g2, _⟩ := odd_turn hg' (hrow hr) hsy hs he
    exact ⟨{ y with w := W' }, n', c, hI, rfl, g1, g2, hb, keepO hl rfl hg' hr, keepO hd rfl hg' hr⟩
  -- the loop's record is turned
  have turn : ∀ (y : Cx) (st : LoopState) (pe : Option Code) (o' : Obj), Ext x y → HSim y → y.w.heap[x.w.heap.size + 1]? = some (.loop { rec st pe with state := .busy }) ∨ y.w.heap[x.w.heap.size + 1]? = some (.loop (rec st pe)) →
      Ext x { y with w := y.w.putObj (x.w.heap.size + 1) o' } ∧ HSim { y with w := y.w.putObj (x.w.heap.size + 1) o' } ∧ Kept y { y with w := y.w.putObj (x.w.heap.size + 1) o' } ∧ (y.w.putObj (x.w.heap.size + 1) o').heap[x.w.heap.size + 1]? = some o' ∧ KpX x y.w (y.w.putObj (x.w.heap.size + 1) o') := by
    intro y st pe o' he hsy hl
    obtain ⟨o, ho, hoo, hi⟩ : ∃ o, y.w.heap[x.w.heap.size + 1]? = some o ∧ isOdd o = true ∧ isIt o = false := by
      rcases hl with hl | hl
      · exact ⟨_, hl, rfl, rfl⟩
      · exact ⟨_, hl, rfl, rfl⟩
    obtain ⟨g1, g2, g3⟩ := odd_turn (grownBy_putObj' y.w (x.w.heap.size + 1) o') (fun r e => by injection e with e; subst e; exact ⟨by omega, o, ho, hoo⟩) hsy hs he
    exact ⟨g1, g2, g3, World.putObj_heap_same (Array.getElem?_eq_some_iff.1 ho).1, KpX.turn o' (by omega) ho hi⟩
  have full : ∀ {y z : Cx} , Ext x y → ExtK s.n y z → Ext x z := fun {y z} h k => ((h.toK s.n).trans k hs).full hB hs
  refine ⟨x.w.heap.size + 1, [mark x.w.heap.size], W1, { target := .fn (.func gf) lb, args := #[.func (.yield (x.w.heap.size + 1)) #[] #[]] }, W1, gf,
    #[.func (.yield (x.w.heap.size + 1)) #[] #[]] ++ lb, W1, ?_, ?_, fun _ _ => trivial, ?_, fun h => (by simp [Fence.wide] at h), ?_⟩
  · rw [← hW1, hrec]; exact run_enterLoop_outer _ _ _ _ _
  · simp only [resolve, hfe]
    simp [go_sem]
  · simp [invoke, go_sem, hent.out]
  · refine (hcall (m - 1) (x.w.heap.size + 1) J Jx W1 hkp1.below hJ hJx ?_ ⟨{ x with w := W1 }, s.n, by show I [] x.H s.n; rw [hH]; exact h0, rfl, he1, hs1, hB, hL1, hK1⟩).mono ?_
    · rintro m' pre i W hnx ⟨y, n', hI, rfl, he, hsy, hb, hl, hd⟩
      have hsize : (encs i).size = ps.size := by
        have := ((RzL_iff _ _).1 (henc pre i hnx)).1
        rw [hps pre i hnx] at this
        simpa using this
      have hy := run_yield (P := P) (args := encs i) hl (by rw [hrec]; exact hsize)
      rw [hrec] at hy
      refine ⟨fn, _, assign, body, hy, roundIn_of_wpIn trivial ?_⟩
      have htz : TSim y (putTs s.T (ps.toList.zip (el i))) { tmps := (ps.toList.zip (encs i).toList).foldl (fun t p => t.setIfInBounds p.1 p.2) a.tmps, defers := [] } N := TSim.puts ps.toList (el i) (encs i).toList (ts.ext he) hpN (RzL_ext he _ _ (henc pre i hnx))
      have hfold : (ps.zip (encs i)).foldl (fun (tmps : Array Value) (x : Tmp × Value) => match x with | (t, a) => tmps.setIfInBounds t a) a.tmps = (ps.toList.zip (encs i).toList).foldl (fun t p => t.setIfInBounds p.1 p.2) a.tmps := by
        rw [← Array.foldl_toList, Array.toList_zip]
      have hw := hbody pre i y.H n' hnx hI (some (x.w.heap.size + 1)) _ (fun t h => h) m' y _ hsy htz rfl hb
      rw [← hfold] at hw
      refine wpIn_mono hw ?_
      rintro e a2 w2 ⟨t2, y2, hq, rfl, hR⟩
      cases e with
      | normal =>
        have he2 := full he hR.ext
        have hl2 : y2.w.heap[x.w.heap.size + 1]? = some (.loop (rec .ready none)) := (hR.ext.other _ (Array.getElem?_eq_some_iff.1 hl).1 (odd_own hsy hl rfl)).trans hl
        have hd2 : y2.w.heap[x.w.heap.size]? = some (.deferred (some [])) := (hR.ext.other _ (Array.getElem?_eq_some_iff.1 hd).1 (odd_own hsy hd rfl)).trans hd
        obtain ⟨g1, g2, g3, g4, g5⟩ := turn y2 .ready none (.loop { rec .ready none with state := .busy }) he2 hR.hs (.inr hl2)
        refine ⟨_, run_beginRound hl2 (by rw [hrec]), ?_⟩
        have hd3 : (y2.w.putObj (x.w.heap.size + 1) (.loop { rec .ready none with state := .busy })).heap[x.w.heap.size]? = some (.deferred (some [])) := (World.putObj_heap_other (by omega)).trans hd2
        have htz2 : TSim { y2 with w := y2.w.putObj (x.w.heap.size + 1) (.loop { rec .ready none with state := .busy }) } t2.T a2 N := ⟨hR.ts.size, fun i => Rz_kept g3 _ _ (hR.ts.at_ i)⟩
        refine wpIn_mono (hq m' { y2 with w := y2.w.putObj (x.w.heap.size + 1) (.loop { rec .ready none with state := .busy }) } a2 g2 htz2 hR.heap hR.born) ?_
        rintro e a3 w3 ⟨t3, y3, hq3, rfl, hR3⟩
        have he3 := full g1 hR3.ext
        have kp3 : KpX x y.w y3.w := ((KpX.ext he hR.ext hsy).trans g5).trans (KpX.ext g1 hR3.ext g2)
        have hl3 : y3.w.heap[x.w.heap.size + 1]? = some (.loop { rec .ready none with state := .busy }) := (hR3.ext.other _ (Array.getElem?_eq_some_iff.1 g4).1 (odd_own g2 g4 rfl)).trans g4
        have hd4 : y3.w.heap[x.w.heap.size]? = some (.deferred (some [])) := (hR3.ext.other _ (Array.getElem?_eq_some_iff.1 hd3).1 (odd_own g2 hd3 rfl)).trans hd3
        -- the body's end, numbered anew
        have fin : ∀ (jump : Option Code) (t' : LSt), LessR s.n t3 t' → ∃ y4 : Cx, y4.H = t'.H ∧ (∀ i, y4.B i → i < t'.n) ∧ Ext x y4 ∧ HSim y4 ∧ (Instr.endRound (x.w.heap.size + 1) jump).run P y3.w = .ok (.bool jump.isNone) y4.w ∧
            y4.w.heap[x.w.heap.size + 1]? = some (.loop (rec (if jump.isNone then .ready else .done) jump)) ∧ y4.w.heap[x.w.heap.size]? = some (.deferred (some [])) ∧ KpX x y.w y4.w := by
          rintro jump t' ⟨ρ, vis, hren⟩
          obtain ⟨z, hzw, hRz⟩ := hren.reach (P := P) hR3.hs hR3.ts hR3.heap
          have hez := full he3 hRz.ext
          have hlz : z.w.heap[x.w.heap.size + 1]? = some (.loop { rec .ready none with state := .busy }) := by rw [hzw]; exact hl3
          obtain ⟨f1, f2, f3, f4, f5⟩ := turn z .ready none (.loop (rec (if jump.isNone then .ready else .done) jump)) hez hRz.hs (.inl hlz)
          refine ⟨{ z with w := z.w.putObj (x.w.heap.size + 1) (.loop (rec (if jump.isNone then .ready else .done) jump)) }, hRz.heap, hRz.born, f1, f2, ?_, f4, ?_, ?_⟩
          · have := run_endRound (P := P) jump hl3
            rw [hrec] at this ⊢
            rw [hzw]
            exact this
          · refine (World.putObj_heap_other (by omega)).trans ?_
            rw [hzw]; exact hd4
          · rw [← hzw] at kp3
            exact kp3.trans f5
        cases e with
        | normal =>
          obtain ⟨t', hle, hI'⟩ := hq3
          obtain ⟨y4, e1, e2, e3, e4, e5, e6, e7, e8⟩ := fin none t' hle
          exact ⟨_, _, e5, .inl ⟨rfl, ⟨y4, t'.n, by rw [e1]; exact hI', rfl, e3, e4, e2, e6, e7⟩, e8⟩⟩
        | ret =>
          obtain ⟨t', hle, hI'⟩ := hq3
          obtain ⟨y4, e1, e2, e3, e4, e5, e6, e7, e8⟩ := fin (some .ret) t' hle
          exact ⟨_, _, e5, .inr ⟨rfl, ⟨y4, t'.n, .ret, .inl ⟨rfl, by rw [e1]; exact hI'⟩, rfl, e3, e4, e2, e6, e7⟩⟩⟩
        | exit id =>
          obtain ⟨t', hle, hI'⟩ := hq3
          obtain ⟨y4, e1, e2, e3, e4, e5, e6, e7, e8⟩ := fin (some (.exit id)) t' hle
          exact ⟨_, _, e5, .inr ⟨rfl, ⟨y4, t'.n, .exit id, .inr ⟨id, rfl, by rw [e1]; exact hI'⟩, rfl, e3, e4, e2, e6, e7⟩⟩⟩
        | goto l => exact hq3.elim
        | panic ch => exact hq3.elim
        | outgrown => exact hq3.elim
      | ret => exact hq.elim
      | exit id => exact hq.elim
      | goto l => exact hq.elim
      | panic ch => exact hq.elim
      | outgrown => exact hq.elim
    · have last : ∀ (y : Cx) (st : LoopState) (pe : Option Code) (n' : Nat), Ext x y → HSim y → (∀ i, y.B i → i < n') → st ≠ .busy → y.w.heap[x.w.heap.size + 1]? = some (.loop (rec st pe)) → y.w.heap[x.w.heap.size]? = some (.deferred (some [])) →
          ∃ y' : Cx, (Instr.endLoop (x.w.heap.size + 1)).run P y.w = .ok pe y'.w ∧ ReachK P N k0 x a s.T y.H n' y' { a with defers := mark x.w.heap.size :: a.defers } := by
        intro y st pe n' he hsy hb hst hl hd
        obtain ⟨f1, f2, f3, f4, f5⟩ := turn y st pe (.loop (rec .exhausted pe)) he hsy (.inr hl)
        refine ⟨{ y with w := y.w.putObj (x.w.heap.size + 1) (.loop (rec .exhausted pe)) }, ?_, ⟨f1.toK k0, f2, ⟨ts.size, fun i => Rz_ext f1 _ _ (ts.at_ i)⟩, rfl, hb, ⟨[x.w.heap.size], rfl, by simp, fun D hD => ?_⟩⟩⟩
        · have := run_endLoop (P := P) hl (by rw [hrec]; exact hst)
          rw [hrec] at this ⊢
          exact this
        · rw [List.mem_singleton] at hD
          subst hD
          exact ⟨Nat.le_refl _, (World.putObj_heap_other (by omega)).trans hd⟩
      rintro e W2 ⟨⟨v, rfl⟩, (⟨xs, hS, y, n', hI, rfl, he, hsy, hb, hl, hd⟩ | ⟨pre, y, n', c, hc, rfl, he, hsy, hb, hl, hd⟩)⟩
      · obtain ⟨y', h1, h2⟩ := last y .ready none n' he hsy hb (by simp) hl hd
        exact ⟨none, y'.w, h1, ⟨_, y.H, n'⟩, y', hdone xs _ n' hS hI, rfl, h2⟩
      · obtain ⟨y', h1, h2⟩ := last y .done (some c) n' he hsy hb (by simp) hl hd
        refine ⟨some c, y'.w, h1, ?_⟩
        rcases hc with ⟨rfl, hq⟩ | ⟨id, rfl, hq⟩
        · exact wpIn_ret ⟨⟨_, y.H, n'⟩, y', hq, rfl, h2⟩
        · exact wpIn_exit ⟨⟨_, y.H, n'⟩, y', hq, rfl, h2⟩
end
end Go.Proofs.Ythnjhhohfhnhgaa
