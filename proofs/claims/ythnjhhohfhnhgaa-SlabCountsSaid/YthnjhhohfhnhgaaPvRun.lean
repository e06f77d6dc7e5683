/- The logic of pure values: regions, in the text's order and in whatever order. -/
import Derived.Test.YthnjhhohfhnhgaaPv
import Derived.OrdersIn
import Derived.TacticsIn
import Derived.RangeFuncWrites
import Derived.RangeFuncLeaves
namespace Go.Proofs.Ythnjhhohfhnhgaa
open Go Go.RowKit

/-! ### A frame of the call's own, or of a round of a loop over a function -/
abbrev rf (R : Option Nat) : Fence := { Fence.wide with round := R }
theorem callsIn_rf {R : Option Nat} {m : Nat} {P : Program} {f : FuncId} {args : Array Value} {w : World} {X : Ending → World → Prop} (h : Calls P f args w X) : CallsIn (rf R) m P f args w X := (callsIn_wide (n := m)).2 h
theorem calls_rf {R : Option Nat} {m : Nat} {P : Program} {f : FuncId} {args : Array Value} {w : World} {X : Ending → World → Prop} (h : CallsIn (rf R) m P f args w X) : Calls P f args w X := (callsIn_wide (n := m)).1 h
theorem rowsIn_rf {R : Option Nat} {m : Nat} {P : Program} {row : String} {args : Array Value} {w : World} {X : Value → World → Prop} (h : Rows P row args w X) : RowsIn (rf R) m P row args w X := fun c cs _ => by
  obtain ⟨v, w', hr, hs⟩ := h c cs
  exact ⟨v, w', hr, stepsIn_wide.2 hs⟩
/-- Not a defer. -/
def nd (o : Oper) : Bool := match o.op with
  | .defer _ => false
  | _ => true
theorem oper_in {R : Option Nat} {m : Nat} {P : Program} {o : Oper} {a : Act} {w : World} {K : Act → World → Prop} {Q : Exit → Act → World → Prop} (hn : nd o = true) (h : o.wp P a w K Q) : o.wpIn (rf R) m P a w K Q := by
  refine ⟨fun _ _ => trivial, ?_⟩
  rw [Oper.semAt_eq _ _ _ (fun c e => by simp [nd, e] at hn)]
  unfold Oper.wp at h
  generalize (execOp a.eval o).run P w = r at h ⊢
  unfold Oper.upon at h
  unfold Oper.uponIn
  split at h <;> first | exact h | exact ⟨fun h0 => (by simp [Fence.wide] at h0), callsIn_rf h⟩ | exact ⟨fun h0 => (by simp [Fence.wide] at h0), rowsIn_rf h⟩ | exact h.elim

/-- Is an operation wanted? -/
def gd (ops : Array Oper) (T : Nat → PV) (o : Oper) : Option Bool :=
  match o.guard with
  | none => some true
  | some (j, w) =>
    match (ops[j]?).bind (·.dst) with
    | some d => match T d with
      | .bool b => some (b == w)
      | _ => none
    | none => none
abbrev Fp := List Nat × List Nat
/-- The operations one after the other, as the text has them; K is told what they leave. -/
def Runs (P : Program) (N : Nat) (ops : Array Oper) : List Oper → (Nat → PV) → (Nat → Option Blk') → Nat → List Fp → ((Nat → PV) → (Nat → Option Blk') → Nat → List Fp → Prop) → Prop
  | [], T, H, n, fp, K => K T H n fp
  | o :: l, T, H, n, fp, K =>
    (gd ops T o = some true ∧ ∃ v H' n' R W, OpOk P N o T H n v H' n' R W ∧ Runs P N ops l (putT T o.dst v) H' n' (fp ++ [(R, W)]) K) ∨
    (gd ops T o = some false ∧ (∀ d, o.dst = some d → d < N) ∧ Runs P N ops l (putT T o.dst .junk) H n (fp ++ [([], [])]) K)

theorem runs_mono {P : Program} {N : Nat} {ops : Array Oper} : ∀ {l : List Oper} {T : Nat → PV} {H : Nat → Option Blk'} {n : Nat} {fp : List Fp} {K K' : (Nat → PV) → (Nat → Option Blk') → Nat → List Fp → Prop}, Runs P N ops l T H n fp K → (∀ T H n fp, K T H n fp → K' T H n fp) → Runs P N ops l T H n fp K'
  | [], _, _, _, _, _, _, h, hk => hk _ _ _ _ h
  | _ :: _, _, _, _, _, _, _, h, hk => h.elim (fun ⟨hg, v, H', n', R, W, ho, hr⟩ => .inl ⟨hg, v, H', n', R, W, ho, runs_mono hr hk⟩) fun ⟨hg, hd, hr⟩ => .inr ⟨hg, hd, runs_mono hr hk⟩
theorem gd_wanted {c : Cx} {T : Nat → PV} {a : Act} {N : Nat} (h : TSim c T a N) {ops : Array Oper} {o : Oper} {b : Bool} (hg : gd ops T o = some b) : Region.wanted o (yielded ops a.tmps) = b := by
  unfold gd at hg
  unfold Region.wanted
  split at hg
  · rename_i h1
    rw [h1]; injection hg
  · rename_i j w h1
    rw [h1]
    simp only
    split at hg
    · rename_i d h2
      split at hg
      · rename_i x h3
        have hr := h.at_ d
        rw [h3] at hr
        simp only [Rz] at hr
        have : a.tmps[d]? = some (.bool x) := by
          rw [Array.getD_eq_getD_getElem?] at hr
          cases hq : a.tmps[d]? with
          | none => rw [hq] at hr; exact nomatch hr
          | some u => rw [hq] at hr; exact congrArg some hr
        unfold yielded
        rw [h2]
        simp only [Option.bind_some, this]
        have hg' : (x == w) = b := Option.some.inj hg
        rw [← hg']
        cases x <;> cases w <;> rfl
      · cases hg
    · cases hg

/-- What holds behind a stretch. -/
structure Reach (P : Program) (N : Nat) (c : Cx) (a : Act) (T : Nat → PV) (H : Nat → Option Blk') (n : Nat) (c' : Cx) (a' : Act) : Prop where
  ext : Ext c c'
  hs : HSim c'
  ts : TSim c' T a' N
  heap : c'.H = H
  born : ∀ i, c'.B i → i < n
  defers : a'.defers = a.defers
theorem Reach.refl {P : Program} {N : Nat} {c : Cx} {a : Act} {T : Nat → PV} {H : Nat → Option Blk'} {n : Nat} (hs : HSim c) (ts : TSim c T a N) (hH : c.H = H) (hB : ∀ i, c.B i → i < n) : Reach P N c a T H n c a :=
  ⟨Ext.refl c, hs, ts, hH, hB, rfl⟩

theorem put_defers (a : Act) (d : Option Nat) (u : Value) : (a.put d u).defers = a.defers := by cases d <;> rfl

theorem runs_list {P : Program} {R0 : Option Nat} {m : Nat} {N : Nat} {ops : Array Oper} {Q : Exit → Act → World → Prop} : ∀ (l : List Oper) (T : Nat → PV) (H : Nat → Option Blk') (n : Nat) (fp : List Fp) (K : (Nat → PV) → (Nat → Option Blk') → Nat → List Fp → Prop),
    Runs P N ops l T H n fp K → l.all nd = true → ∀ (c : Cx) (a : Act), HSim c → TSim c T a N → c.H = H → (∀ i, c.B i → i < n) →
    (∀ T' H' n' fp', K T' H' n' fp' → ∀ c' a', Reach P N c a T' H' n' c' a' → Q .normal a' c'.w) → wpListIn (rf R0) m P ops Q l a c.w
  | [], T, H, n, fp, K, h, _, c, a, hs, ts, hH, hB, hK => hK T H n fp h c a (.refl hs ts hH hB)
  | o :: l, T, H, n, fp, K, h, hnd, c, a, hs, ts, hH, hB, hK => by
    rw [List.all_cons, Bool.and_eq_true] at hnd
    rcases h with ⟨hg, v, H', n', R, W, ho, hr⟩ | ⟨hg, hd, hr⟩
    · unfold wpListIn
      rw [if_pos (gd_wanted ts hg)]
      refine oper_in hnd.1 ?_
      refine ho.sem c a T hs ts (fun _ _ => rfl) (fun i _ => by rw [hH]) (fun i h1 _ hi => by have := hB i hi; omega) _ Q ?_
      intro c' u he hs' hB' hH' hu
      have hH2 : c'.H = H' := by
        rw [hH', hH]
        funext i
        unfold over
        split
        · rfl
        · rename_i hn
          exact (ho.frame i (by simpa using hn)).symm
      refine runs_list l _ H' n' _ K hr hnd.2 c' _ hs' ((ts.ext he).put _ ho.dst hu) hH2 (fun i hi => ?_) ?_
      · rcases (hB' i).1 hi with h1 | h1
        · have := hB i h1; have := ho.le; omega
        · exact h1.2
      · intro T2 H2 n2 fp2 hk c2 a2 hR
        exact hK T2 H2 n2 fp2 hk c2 a2 ⟨he.trans hR.ext hs, hR.hs, hR.ts, hR.heap, hR.born, hR.defers.trans (put_defers _ _ _)⟩
    · unfold wpListIn
      rw [if_neg (by rw [gd_wanted ts hg]; simp)]
      refine ⟨fun _ _ => trivial, ?_⟩
      refine runs_list l _ H n _ K hr hnd.2 c _ hs (ts.put _ hd trivial) hH hB ?_
      intro T2 H2 n2 fp2 hk c2 a2 hR
      exact hK T2 H2 n2 fp2 hk c2 a2 ⟨hR.ext, hR.hs, hR.ts, hR.heap, hR.born, hR.defers.trans (put_defers _ _ _)⟩

/-! ### Whatever order is drawn -/
structure LSt where
  T : Nat → PV
  H : Nat → Option Blk'
  n : Nat
/-- One operation of a textual run, with what it hangs on and turns. -/
def StepOk (P : Program) (N : Nat) (ops : Array Oper) (o : Oper) (s t : LSt) (f : Fp) : Prop :=
  (∃ v, gd ops s.T o = some true ∧ OpOk P N o s.T s.H s.n v t.H t.n f.1 f.2 ∧ t.T = putT s.T o.dst v) ∨
  (gd ops s.T o = some false ∧ (∀ d, o.dst = some d → d < N) ∧ t.H = s.H ∧ t.n = s.n ∧ f = ([], []) ∧ t.T = putT s.T o.dst .junk)

theorem runs_chain {P : Program} {N : Nat} {ops : Array Oper} : ∀ (l : List Oper) (s0 : LSt) (fp : List Fp) (K : (Nat → PV) → (Nat → Option Blk') → Nat → List Fp → Prop),
    Runs P N ops l s0.T s0.H s0.n fp K → ∃ (s : Nat → LSt) (f : Nat → Fp), s 0 = s0 ∧ (∀ j o, l[j]? = some o → StepOk P N ops o (s j) (s (j + 1)) (f j)) ∧ K (s l.length).T (s l.length).H (s l.length).n (fp ++ (List.range l.length).map f)
  | [], s0, fp, K, h => ⟨fun _ => s0, fun _ => ([], []), rfl, by simp, by simpa [Runs] using h⟩
  | o :: l, s0, fp, K, h => by
    have main : ∀ (s1 : LSt) (f0 : Fp), StepOk P N ops o s0 s1 f0 → Runs P N ops l s1.T s1.H s1.n (fp ++ [f0]) K → ∃ (s : Nat → LSt) (f : Nat → Fp), s 0 = s0 ∧ (∀ j o', (o :: l)[j]? = some o' → StepOk P N ops o' (s j) (s (j + 1)) (f j)) ∧ K (s (o :: l).length).T (s (o :: l).length).H (s (o :: l).length).n (fp ++ (List.range (o :: l).length).map f) := by
      intro s1 f0 hs hr
      obtain ⟨s, f, h0, hstep, hk⟩ := runs_chain l s1 (fp ++ [f0]) K hr
      refine ⟨fun j => match j with | 0 => s0 | j + 1 => s j, fun j => match j with | 0 => f0 | j + 1 => f j, rfl, ?_, ?_⟩
      · intro j o' hj
        cases j with
        | zero =>
          simp at hj; subst hj
          show StepOk P N ops o s0 (s 0) f0
          rw [h0]; exact hs
        | succ j => exact hstep j o' (by simpa using hj)
      · simp only [List.length_cons, List.range_succ_eq_map, List.map_cons, List.map_map]
        simpa [Function.comp_def] using hk
    rcases h with ⟨hg, v, H', n', R, W, ho, hr⟩ | ⟨hg, hd, hr⟩
    · exact main ⟨putT s0.T o.dst v, H', n'⟩ (R, W) (.inl ⟨v, hg, ho, rfl⟩) hr
    · exact main ⟨putT s0.T o.dst .junk, s0.H, s0.n⟩ ([], []) (.inr ⟨hg, hd, rfl, rfl, rfl, rfl⟩) hr

/-- Which operations are surely ahead of number j: row by row. -/
def addAll (l r : List Nat) : List Nat := l.foldl (fun r i => if r.contains i then r else i :: r) r
def rowOf (o : Oper) (acc : List (List Nat)) : List Nat := o.after.toList.foldl (fun r e => if Region.binds .any e then addAll (e.on :: acc.getD e.on []) r else r) []
def rowsFrom : List Oper → List (List Nat) → List (List Nat)
  | [], acc => acc
  | o :: l, acc => rowsFrom l (acc ++ [rowOf o acc])
def aheads (l : List Oper) : List (List Nat) := rowsFrom l []
theorem mem_addAll {i : Nat} : ∀ (l r : List Nat), i ∈ addAll l r → i ∈ l ∨ i ∈ r
  | [], r, h => .inr h
  | x :: l, r, h => by
    rcases mem_addAll l _ h with h1 | h1
    · exact .inl (by simp [h1])
    · dsimp only at h1
      split at h1
      · exact .inr h1
      · rcases List.mem_cons.1 h1 with rfl | h1
        · exact .inl (by simp)
        · exact .inr h1
theorem rowOf_sub {o : Oper} {acc : List (List Nat)} {E : Nat → Prop} (h1 : ∀ e ∈ o.after, Region.binds .any e = true → E e.on) (h2 : ∀ k, E k → ∀ i ∈ acc.getD k [], E i) : ∀ i ∈ rowOf o acc, E i := by
  have key : ∀ (l : List Edge) (r : List Nat), (∀ e ∈ l, Region.binds .any e = true → E e.on) → (∀ i ∈ r, E i) → ∀ i ∈ l.foldl (fun r e => if Region.binds .any e then addAll (e.on :: acc.getD e.on []) r else r) r, E i := by
    intro l
    induction l with
    | nil => intro r _ hr i hi; exact hr i hi
    | cons e l ih =>
      intro r hl hr
      refine ih _ (fun e' he' => hl e' (by simp [he'])) fun i hi => ?_
      dsimp only at hi
      split at hi
      · rename_i hb
        have he := hl e (by simp) hb
        rcases mem_addAll _ _ hi with h | h
        · rcases List.mem_cons.1 h with rfl | h
          · exact he
          · exact h2 _ he i h
        · exact hr i h
      · exact hr i hi
  exact key _ _ (fun e he => h1 e (by simpa using he)) (by simp)
theorem rowsFrom_sub {E : Nat → Prop} : ∀ (l : List Oper) (acc : List (List Nat)), (∀ j o, l[j]? = some o → E (acc.length + j) → ∀ e ∈ o.after, Region.binds .any e = true → E e.on) →
    (∀ k, E k → ∀ i ∈ acc.getD k [], E i) → ∀ k, E k → ∀ i ∈ (rowsFrom l acc).getD k [], E i
  | [], acc, _, h2 => h2
  | o :: l, acc, h1, h2 => by
    refine rowsFrom_sub l _ (fun j o' hj hE => h1 (j + 1) o' (by simpa using hj) (by simpa [Nat.add_assoc, Nat.add_comm 1] using hE)) fun k hk i hi => ?_
    rcases Nat.lt_trichotomy k acc.length with h | h | h
    · refine h2 k hk i ?_
      rw [List.getD_eq_getElem?_getD, List.getElem?_append_left h] at hi
      rw [List.getD_eq_getElem?_getD]; exact hi
    · subst h
      rw [List.getD_eq_getElem?_getD, List.getElem?_append_right (Nat.le_refl _)] at hi
      simp at hi
      exact rowOf_sub (h1 0 o rfl (by simpa using hk)) h2 i hi
    · rw [List.getD_eq_getElem?_getD, List.getElem?_append_right (by omega)] at hi
      rw [List.getElem?_eq_none (by simp; omega)] at hi
      simp at hi
theorem aheads_sub {E : Nat → Prop} {l : List Oper} (h : ∀ j o, l[j]? = some o → E j → ∀ e ∈ o.after, Region.binds .any e = true → E e.on) : ∀ k, E k → ∀ i ∈ (aheads l).getD k [], E i :=
  rowsFrom_sub l [] (fun j o hj hE => h j o hj (by simpa using hE)) (by simp)

def guardTmp (ops : Array Oper) (o : Oper) : List Nat := match o.guard with
  | some (g, _) => ((ops[g]?).bind (·.dst)).toList
  | none => []
/-- Does it matter which of two operations comes first? -/
def clash (ops : Array Oper) (o p : Oper) (f g : Fp) : Bool :=
  (o.dst.toList.any fun d => (looks p ++ guardTmp ops p).contains d || p.dst.toList.contains d) || (p.dst.toList.any fun d => (looks o ++ guardTmp ops o).contains d) ||
  (f.2.any fun i => g.1.contains i || g.2.contains i) || (g.2.any fun i => f.1.contains i)
def ordOk (l : List Oper) (fp : List Fp) : Bool :=
  (l.zipIdx.all fun (o, j) => o.after.toList.all fun e => !Region.binds .any e || decide (e.on < j)) &&
  (List.range l.length).all fun j => (List.range j).all fun i => match l[i]?, l[j]? with
    | some o, some p => ((aheads l).getD j []).contains i || !clash l.toArray o p (fp.getD i ([], [])) (fp.getD j ([], []))
    | _, _ => true

theorem cut_eq {V : Type} (val : Nat → V) (wr : Nat → Prop) (len : Nat) (hval : ∀ i, i < len → ¬ wr i → val (i + 1) = val i) (E : Nat → Prop) (j k : Nat) (hj : j ≤ len) (hk : k ≤ len)
    (hE : ∀ i, i < len → wr i → (E i ↔ i < k)) (h1 : ∀ i, i < j → wr i → E i) (h2 : ∀ i, j ≤ i → i < len → wr i → ¬ E i) : val k = val j := by
  have run : ∀ d p, p + d ≤ len → (∀ i, p ≤ i → i < p + d → ¬ wr i) → val (p + d) = val p := by
    intro d
    induction d with
    | zero => intro p _ _; rfl
    | succ d ih =>
      intro p hp hn
      rw [← Nat.add_assoc, hval (p + d) (by omega) (hn _ (by omega) (by omega))]
      exact ih p (by omega) fun i h1 h2 => hn i h1 (by omega)
  rcases Nat.le_total k j with h | h
  · obtain ⟨d, rfl⟩ := Nat.exists_eq_add_of_le h
    refine (run d k hj fun i hi1 hi2 hw => ?_).symm
    have := (hE i (by omega) hw).1 (h1 i hi2 hw)
    omega
  · obtain ⟨d, rfl⟩ := Nat.exists_eq_add_of_le h
    refine run d j hk fun i hi1 hi2 hw => ?_
    exact h2 i hi1 (by omega) hw ((hE i (by omega) hw).2 (by omega))

theorem gd_same {ops : Array Oper} {T T2 : Nat → PV} {o : Oper} (h : ∀ t ∈ guardTmp ops o, T2 t = T t) : gd ops T2 o = gd ops T o := by
  unfold gd
  cases hg : o.guard with
  | none => rfl
  | some g =>
    obtain ⟨j, w⟩ := g
    simp only
    cases hd : (ops[j]?).bind (·.dst) with
    | none => rfl
    | some d =>
      have : T2 d = T d := h d (by unfold guardTmp; rw [hg]; simp [hd])
      simp only [this]

section
variable {P : Program} {N : Nat} {l : List Oper} {s : Nat → LSt} {f : Nat → Fp}
/-- The state behind those operations that E tells, of a textual run s. -/
structure Mid (N : Nat) (l : List Oper) (s : Nat → LSt) (f : Nat → Fp) (c0 : Cx) (a0 : Act) (E : Nat → Prop) (c : Cx) (a : Act) : Prop where
  ext : Ext c0 c
  hs : HSim c
  size : a.tmps.size = N
  tmp : ∀ t, ∃ k, k ≤ l.length ∧ Rz c ((s k).T t) (a.tmps.getD t undef) ∧ ∀ i o, l[i]? = some o → o.dst = some t → (E i ↔ i < k)
  heap : ∀ d, ∃ k, k ≤ l.length ∧ c.H d = (s k).H d ∧ ∀ i, i < l.length → d ∈ (f i).2 → (E i ↔ i < k)
  born : ∀ d, c.B d ↔ (c0.B d ∨ ∃ i, i < l.length ∧ E i ∧ (s i).n ≤ d ∧ d < (s (i + 1)).n)
  defers : a.defers = a0.defers

theorem step_dst {ops : Array Oper} {o : Oper} {x y : LSt} {g : Fp} (h : StepOk P N ops o x y g) {t : Nat} (ht : o.dst ≠ some t) : y.T t = x.T t := by
  have key : ∀ v, putT x.T o.dst v t = x.T t := by
    intro v
    cases hd : o.dst with
    | none => rfl
    | some d =>
      have hb : Nat.beq t d = false := by
        cases hq : Nat.beq t d with
        | false => rfl
        | true => exact absurd (by rw [hd, Nat.eq_of_beq_eq_true hq]) ht
      simp [putT, hb]
  rcases h with ⟨v, _, _, e⟩ | ⟨_, _, _, _, _, e⟩ <;> rw [e] <;> exact key _
theorem step_heap {ops : Array Oper} {o : Oper} {x y : LSt} {g : Fp} (h : StepOk P N ops o x y g) {d : Nat} (hd : d ∉ g.2) : y.H d = x.H d := by
  rcases h with ⟨v, _, ho, _⟩ | ⟨_, _, e, _⟩
  · exact ho.frame d hd
  · rw [e]
theorem step_n {ops : Array Oper} {o : Oper} {x y : LSt} {g : Fp} (h : StepOk P N ops o x y g) : x.n ≤ y.n := by
  rcases h with ⟨v, _, ho, _⟩ | ⟨_, _, _, e, _⟩
  · exact ho.le
  · rw [e]; exact Nat.le_refl _
theorem step_dN {ops : Array Oper} {o : Oper} {x y : LSt} {g : Fp} (h : StepOk P N ops o x y g) : ∀ d, o.dst = some d → d < N := by
  rcases h with ⟨v, _, ho, _⟩ | ⟨_, e, _⟩
  · exact ho.dst
  · exact e
theorem run_mono (hst : ∀ j o, l[j]? = some o → StepOk P N l.toArray o (s j) (s (j + 1)) (f j)) : ∀ d i, i + d ≤ l.length → (s i).n ≤ (s (i + d)).n
  | 0, _, _ => Nat.le_refl _
  | d + 1, i, h => by
    have h1 := run_mono hst d i (by omega)
    have hlt : i + d < l.length := by omega
    exact Nat.le_trans h1 (step_n (hst (i + d) l[i + d] (List.getElem?_eq_getElem hlt)))

theorem mid_step {R0 : Option Nat} {m : Nat} (hnd : l.all nd = true) {c0 : Cx} {a0 : Act} {E : Nat → Prop} {c : Cx} {a : Act} {K : Act → World → Prop} {Q : Exit → Act → World → Prop}
    (hst : ∀ j o, l[j]? = some o → StepOk P N l.toArray o (s j) (s (j + 1)) (f j)) (hs0 : HSim c0) (hB0 : ∀ i, c0.B i → i < (s 0).n)
    (hc1 : ∀ i j o p, i < j → l[i]? = some o → l[j]? = some p → clash l.toArray o p (f i) (f j) = true → E j → E i)
    {j : Nat} {o : Oper} (hj : l[j]? = some o) (hjE : ¬ E j) (hc2 : ∀ i p, i < j → l[i]? = some p → clash l.toArray p o (f i) (f j) = true → E i)
    (h : Mid N l s f c0 a0 E c a) (hK : ∀ c' a', Mid N l s f c0 a0 (fun i => E i ∨ i = j) c' a' → K a' c'.w) : wpOpIn (rf R0) m P l.toArray Q j K a c.w := by
  have hjl : j < l.length := (List.getElem?_eq_some_iff.1 hj).1
  have hstep := hst j o hj
  have hval : ∀ i, i < l.length → ∃ o', l[i]? = some o' ∧ StepOk P N l.toArray o' (s i) (s (i + 1)) (f i) := fun i hi => ⟨l[i], List.getElem?_eq_getElem hi, hst i _ (List.getElem?_eq_getElem hi)⟩
  -- what the operation hangs on is as in the text
  have htmp : ∀ t (k : Nat), k ≤ l.length → (∀ i o', l[i]? = some o' → o'.dst = some t → (E i ↔ i < k)) → (t ∈ looks o ++ guardTmp l.toArray o ∨ o.dst = some t) → (s k).T t = (s j).T t := by
    intro t k hk hE ht
    refine cut_eq (fun i => (s i).T t) (fun i => ∃ o', l[i]? = some o' ∧ o'.dst = some t) l.length ?_ E j k (by omega) hk ?_ ?_ ?_
    · intro i hi hn
      obtain ⟨o', h1, h2⟩ := hval i hi
      exact step_dst h2 fun e => hn ⟨o', h1, e⟩
    · rintro i hi ⟨o', h1, h2⟩
      exact hE i o' h1 h2
    · rintro i hi ⟨o', h1, h2⟩
      refine hc2 i o' hi h1 ?_
      unfold clash
      rcases ht with ht | ht
      · simp only [h2, Option.toList_some, List.any_cons, List.any_nil]
        simp [ht]
      · simp [h2, ht]
    · rintro i hi1 hi2 ⟨o', h1, h2⟩ hEi
      rcases Nat.eq_or_lt_of_le hi1 with e | hlt
      · subst e; exact hjE hEi
      · refine hjE (hc1 j i o o' hlt hj h1 ?_ hEi)
        unfold clash
        rcases ht with ht | ht
        · simp only [h2, Option.toList_some, List.any_cons, List.any_nil]
          simp [ht]
        · simp [h2, ht]
  have hheap : ∀ d (k : Nat), k ≤ l.length → (∀ i, i < l.length → d ∈ (f i).2 → (E i ↔ i < k)) → (d ∈ (f j).1 ∨ d ∈ (f j).2) → (s k).H d = (s j).H d := by
    intro d k hk hE ht
    refine cut_eq (fun i => (s i).H d) (fun i => i < l.length ∧ d ∈ (f i).2) l.length ?_ E j k (by omega) hk ?_ ?_ ?_
    · intro i hi hn
      obtain ⟨o', h1, h2⟩ := hval i hi
      exact step_heap h2 fun e => hn ⟨hi, e⟩
    · rintro i hi ⟨_, h2⟩
      exact hE i hi h2
    · rintro i hi ⟨h1, h2⟩
      obtain ⟨o', h3, _⟩ := hval i h1
      refine hc2 i o' hi h3 ?_
      unfold clash
      simp only [Bool.or_eq_true, List.any_eq_true, List.contains_iff_mem]
      refine .inl (.inr ⟨d, h2, ht⟩)
    · rintro i hi1 hi2 ⟨_, h2⟩ hEi
      rcases Nat.eq_or_lt_of_le hi1 with e | hlt
      · subst e; exact hjE hEi
      · obtain ⟨o', h3, _⟩ := hval i hi2
        refine hjE (hc1 j i o o' hlt hj h3 ?_ hEi)
        unfold clash
        simp only [Bool.or_eq_true, List.any_eq_true, List.contains_iff_mem]
        rcases ht with ht | ht
        · exact .inr ⟨d, h2, ht⟩
        · exact .inl (.inr ⟨d, ht, .inr h2⟩)
  -- the slots as they now stand
  have hT : ∃ T2 : Nat → PV, TSim c T2 a N ∧ ∀ t, (t ∈ looks o ++ guardTmp l.toArray o ∨ o.dst = some t) → T2 t = (s j).T t := by
    refine ⟨fun t => (s (Classical.choose (h.tmp t))).T t, ⟨h.size, fun t => (Classical.choose_spec (h.tmp t)).2.1⟩, fun t ht => ?_⟩
    obtain ⟨h1, _, h3⟩ := Classical.choose_spec (h.tmp t)
    exact htmp t _ h1 h3 ht
  obtain ⟨T2, hts, hTe⟩ := hT
  have hgd : gd l.toArray T2 o = gd l.toArray (s j).T o := gd_same fun t ht => hTe t (.inl (by simp [ht]))
  have hEj : ∀ i, i < l.length → ∀ k, k ≤ l.length → (E i ↔ i < k) → i ≠ j → ((E i ∨ i = j) ↔ i < k) := fun i _ k _ h1 h2 => ⟨fun h3 => h3.elim h1.1 fun e => absurd e h2, fun h3 => .inl (h1.2 h3)⟩
  -- what holds behind it
  have done : ∀ (c' : Cx) (u : Value), Ext c c' → HSim c' → (∀ i, c'.B i ↔ (c.B i ∨ ((s j).n ≤ i ∧ i < (s (j + 1)).n))) → (∀ d, c'.H d = if d ∈ (f j).2 then (s (j + 1)).H d else c.H d) → (∀ t, o.dst = some t → Rz c' ((s (j + 1)).T t) u) → K (a.put o.dst u) c'.w := by
    intro c' u he hs' hB' hH' hu
    refine hK c' (a.put o.dst u) ⟨h.ext.trans he hs0, hs', ?_, ?_, ?_, ?_, (put_defers _ _ _).trans h.defers⟩
    · cases ho : o.dst with
      | none => exact h.size
      | some d => simp [Act.put, h.size]
    · intro t
      by_cases ht : o.dst = some t
      · refine ⟨j + 1, by omega, ?_, ?_⟩
        · have := hu t ht
          have hlt : t < a.tmps.size := by rw [h.size]; exact step_dN hstep t ht
          rw [ht]
          simpa [Act.put, Array.getD_eq_getD_getElem?, hlt] using this
        · intro i o' hi hd
          constructor
          · rintro (h1 | rfl)
            · rcases Nat.lt_trichotomy i j with h2 | rfl | h2
              · omega
              · omega
              · exfalso
                exact hjE (hc1 j i o o' h2 hj hi (by unfold clash; simp [hd, ht]) h1)
            · omega
          · intro h1
            rcases Nat.lt_or_ge i j with h2 | h2
            · exact .inl (hc2 i o' h2 hi (by unfold clash; simp [hd, ht]))
            · exact .inr (by omega)
      · obtain ⟨k, h1, h2, h3⟩ := h.tmp t
        refine ⟨k, h1, ?_, ?_⟩
        · have := Rz_ext he _ _ h2
          cases hd : o.dst with
          | none => simpa [Act.put] using this
          | some d =>
            have hne : d ≠ t := fun e => ht (by rw [hd, e])
            simpa [Act.put, Array.getD_eq_getD_getElem?, Array.getElem?_setIfInBounds_ne hne] using this
        · intro i o' hi hd
          refine hEj i (List.getElem?_eq_some_iff.1 hi).1 k h1 (h3 i o' hi hd) ?_
          rintro rfl
          rw [hj] at hi
          injection hi with hi
          subst hi
          exact ht hd
    · intro d
      by_cases hd : d ∈ (f j).2
      · refine ⟨j + 1, by omega, by rw [hH', if_pos hd], ?_⟩
        intro i hi hdi
        obtain ⟨o', h3, _⟩ := hval i hi
        constructor
        · rintro (h1 | rfl)
          · rcases Nat.lt_trichotomy i j with h2 | rfl | h2
            · omega
            · omega
            · exfalso
              refine hjE (hc1 j i o o' h2 hj h3 ?_ h1)
              unfold clash
              simp only [Bool.or_eq_true, List.any_eq_true, List.contains_iff_mem]
              exact .inl (.inr ⟨d, hd, .inr hdi⟩)
          · omega
        · intro h1
          rcases Nat.lt_or_ge i j with h2 | h2
          · refine .inl (hc2 i o' h2 h3 ?_)
            unfold clash
            simp only [Bool.or_eq_true, List.any_eq_true, List.contains_iff_mem]
            exact .inl (.inr ⟨d, hdi, .inr hd⟩)
          · exact .inr (by omega)
      · obtain ⟨k, h1, h2, h3⟩ := h.heap d
        refine ⟨k, h1, by rw [hH', if_neg hd]; exact h2, fun i hi hdi => hEj i hi k h1 (h3 i hi hdi) ?_⟩
        rintro rfl
        exact hd hdi
    · intro d
      rw [hB' d, h.born d]
      constructor
      · rintro ((h1 | ⟨i, h1, h2, h3⟩) | h1)
        · exact .inl h1
        · exact .inr ⟨i, h1, .inl h2, h3⟩
        · exact .inr ⟨j, hjl, .inr rfl, h1⟩
      · rintro (h1 | ⟨i, h1, h2 | rfl, h3⟩)
        · exact .inl (.inl h1)
        · exact .inl (.inr ⟨i, h1, h2, h3⟩)
        · exact .inr h3
  unfold wpOpIn
  have hget : l.toArray[j]? = some o := by simpa using hj
  rw [hget]
  simp only
  rcases hstep with ⟨v, hg, ho, eT⟩ | ⟨hg, hd, eH, en, ef, eT⟩
  · rw [if_pos (gd_wanted hts (hgd.trans hg))]
    refine oper_in (List.all_eq_true.1 hnd o (List.mem_of_getElem? hj)) ?_
    refine ho.sem c a T2 h.hs hts (fun t ht => hTe t (.inl (by simp [ht]))) ?_ ?_ _ _ ?_
    · intro i hi
      obtain ⟨k, h1, h2, h3⟩ := h.heap i
      rw [h2]
      exact hheap i k h1 h3 hi
    · intro i h1 h2 hB
      rcases (h.born i).1 hB with h3 | ⟨p, h3, h4, h5, h6⟩
      · have h7 := hB0 i h3
        have := run_mono hst j 0 (by omega)
        rw [Nat.zero_add] at this
        omega
      · rcases Nat.lt_trichotomy p j with h7 | rfl | h7
        · have := run_mono hst (j - (p + 1)) (p + 1) (by omega)
          rw [show p + 1 + (j - (p + 1)) = j by omega] at this
          omega
        · exact hjE h4
        · have := run_mono hst (p - (j + 1)) (j + 1) (by omega)
          rw [show j + 1 + (p - (j + 1)) = p by omega] at this
          omega
    · intro c' u he hs' hB' hH' hu
      refine done c' u he hs' hB' (fun d => ?_) fun t ht => ?_
      · rw [hH']
        unfold over
        simp only [List.contains_iff_mem]
      · rw [eT, ht]
        simpa [putT] using hu
  · rw [if_neg (by rw [gd_wanted hts (hgd.trans hg)]; simp)]
    refine ⟨fun _ _ => trivial, ?_⟩
    refine done c undef (Ext.refl c) h.hs (fun i => ⟨.inl, fun h1 => h1.elim id fun h2 => by rw [en] at h2; omega⟩) (fun d => by rw [ef]; simp) fun t ht => ?_
    rw [eT, ht]
    simp [putT, Rz]

theorem mid_all {R0 : Option Nat} {m : Nat} (hnd : l.all nd = true) {c0 : Cx} {a0 : Act} {Q : Exit → Act → World → Prop}
    (hst : ∀ j o, l[j]? = some o → StepOk P N l.toArray o (s j) (s (j + 1)) (f j)) (hs0 : HSim c0) (hB0 : ∀ i, c0.B i → i < (s 0).n)
    (hord : ∀ i j o p, i < j → l[i]? = some o → l[j]? = some p → clash l.toArray o p (f i) (f j) = true → i ∈ (aheads l).getD j [])
    (hback : ∀ j o, l[j]? = some o → ∀ e ∈ o.after, Region.binds .any e = true → e.on < j)
    (hQ : ∀ c' a', Mid N l s f c0 a0 (fun i => i < l.length) c' a' → Q .normal a' c'.w) :
    ∀ (fuel : Nat) (listed : Array Bool) (c : Cx) (a : Act), listed.size = l.length → (List.range l.length).countP (fun i => !listed.getD i true) = fuel →
      (∀ j o, l[j]? = some o → listed.getD j false = true → ∀ e ∈ o.after, Region.binds .any e = true → listed.getD e.on false = true) →
      Mid N l s f c0 a0 (fun i => listed.getD i false = true) c a → wpAnyIn (rf R0) m P .any l.toArray Q fuel listed a c.w := by
  intro fuel
  have fin : ∀ (listed : Array Bool) (c : Cx) (a : Act), listed.size = l.length → (∀ i, i < l.length → listed.getD i false = true) → Mid N l s f c0 a0 (fun i => listed.getD i false = true) c a → Q .normal a c.w := by
    intro listed c a hsz hall hm
    refine hQ c a ?_
    have : (fun i => listed.getD i false = true) = (fun i => i < l.length) := by
      funext i
      apply propext
      constructor
      · intro h
        rcases Nat.lt_or_ge i listed.size with h1 | h1
        · omega
        · simp [Array.getElem?_eq_none h1] at h
      · exact hall i
    rw [← this]; exact hm
  induction fuel with
  | zero =>
    intro listed c a hsz hc hdown hm
    have hall : ∀ i, i < l.length → listed.getD i false = true := fun i hi => by
      have := List.countP_eq_zero.1 hc i (List.mem_range.2 hi)
      have hlt : i < listed.size := by omega
      simpa [hlt] using this
    refine ⟨?_, fin listed c a hsz hall hm⟩
    refine List.filter_eq_nil_iff.2 fun i hi => ?_
    have hi' : i < l.length := by simpa using hi
    have := hall i hi'
    have hlt : i < listed.size := by omega
    simp [hlt] at this ⊢
    intro h; rw [this] at h; cases h
  | succ fuel ih =>
    intro listed c a hsz hc hdown hm
    have hex : ∃ i, i < l.length ∧ listed.getD i false = false := by
      obtain ⟨i, hi, hu⟩ := List.countP_pos_iff.1 (show 0 < (List.range l.length).countP (fun i => !listed.getD i true) by omega)
      have hlt : i < listed.size := by rw [hsz]; simpa using hi
      exact ⟨i, by simpa using hi, by simpa [hlt] using hu⟩
    have hne : ∀ m i, i ≤ m → i < l.length → listed.getD i false = false → Region.ready .any l.toArray listed ≠ [] := by
      intro m
      induction m with
      | zero =>
        intro i him hi hu h0
        have hlt : i < listed.size := by omega
        have hu' : listed.getD i true = false := by simpa [hlt] using hu
        have : i ∈ Region.ready .any l.toArray listed := mem_ready.2 ⟨hu', l[i], by simp [hi], fun e he hb => by
          have := hback i l[i] (List.getElem?_eq_getElem hi) e he hb
          omega⟩
        rw [h0] at this; cases this
      | succ m ihm =>
        intro i him hi hu h0
        by_cases hall : ∀ e ∈ (l[i]'hi).after, Region.binds .any e = true → listed.getD e.on false = true
        · have hlt : i < listed.size := by omega
          have hu' : listed.getD i true = false := by simpa [hlt] using hu
          have : i ∈ Region.ready .any l.toArray listed := mem_ready.2 ⟨hu', l[i], by simp [hi], hall⟩
          rw [h0] at this; cases this
        · simp only [Classical.not_forall] at hall
          obtain ⟨e, he, hb, hn⟩ := hall
          have hlt := hback i l[i] (List.getElem?_eq_getElem hi) e he hb
          exact ihm e.on (by omega) (by omega) (by simpa using hn) h0
    obtain ⟨i0, hi0, hu0⟩ := hex
    refine ⟨fun h0 => absurd h0 (hne i0 i0 (Nat.le_refl _) hi0 hu0), fun j hj => ?_⟩
    obtain ⟨hun, o, ho, hall⟩ := mem_ready.1 hj
    have hjl : j < l.length := by
      have := (Array.getElem?_eq_some_iff.1 ho).1
      simpa using this
    have ho' : l[j]? = some o := by simpa using ho
    have hlj : j < listed.size := by omega
    have hunf : listed.getD j false = false := by simpa [hlj] using hun
    refine mid_step hnd hst hs0 hB0 (E := fun i => listed.getD i false = true) ?_ ho' (by simp only [hunf]; simp) ?_ hm ?_
    · intro i k oi ok hik h1 h2 hcl hk
      exact aheads_sub (E := fun i => listed.getD i false = true) hdown k hk i (hord i k oi ok hik h1 h2 hcl)
    · intro i p hij h1 hcl
      have := aheads_sub (E := fun i => listed.getD i false = true ∨ i = j) (l := l) (fun k ok hk hE e he hb => by
        rcases hE with hE | rfl
        · exact .inl (hdown k ok hk hE e he hb)
        · rw [ho'] at hk
          injection hk with hk
          subst hk
          exact .inl (hall e he hb)) j (.inr rfl) i (hord i j p o hij h1 ho' hcl)
      rcases this with h | h
      · exact h
      · omega
    · intro c' a' hm'
      have hset : ∀ i, (listed.setIfInBounds j true).getD i false = true ↔ (listed.getD i false = true ∨ i = j) := by
        intro i
        by_cases e : i = j
        · subst e; simp [hlj]
        · rw [getD_set_ne false (Ne.symm e)]
          simp [e]
      refine ih (listed.setIfInBounds j true) c' a' (by simpa using hsz) ?_ ?_ ?_
      · have key : ∀ (L : List Nat), L.Nodup → j ∈ L → L.countP (fun i => !listed.getD i true) = L.countP (fun i => !(listed.setIfInBounds j true).getD i true) + 1 := by
          intro L
          induction L with
          | nil => intro _ h; cases h
          | cons x L ihL =>
            intro hnd hjL
            rw [List.nodup_cons] at hnd
            rw [List.countP_cons, List.countP_cons]
            by_cases hx : x = j
            · subst hx
              have h1 : (listed.setIfInBounds x true).getD x true = true := by simp [hlj]
              have h2 : L.countP (fun i => !listed.getD i true) = L.countP (fun i => !(listed.setIfInBounds x true).getD i true) := List.countP_congr fun y hy => by
                have hxy : x ≠ y := fun e => hnd.1 (by rw [e]; exact hy)
                rw [getD_set_ne true hxy]
              rw [h1, hun, h2]; simp
            · have := ihL hnd.2 (by
                rcases List.mem_cons.1 hjL with h | h
                · exact absurd h.symm hx
                · exact h)
              rw [this, getD_set_ne true (Ne.symm hx)]
              omega
        have := key (List.range l.length) List.nodup_range (by simpa using hjl)
        omega
      · intro k ok hk hE e he hb
        rw [hset] at hE ⊢
        rcases hE with hE | rfl
        · exact .inl (hdown k ok hk hE e he hb)
        · rw [ho'] at hk
          injection hk with hk
          subst hk
          exact .inl (hall e he hb)
      · have : (fun i => (listed.setIfInBounds j true).getD i false = true) = (fun i => listed.getD i false = true ∨ i = j) := by
          funext i; exact propext (hset i)
        rw [this]; exact hm'
end

/-- A region that draws its order. -/
theorem runs_any {P : Program} {R0 : Option Nat} {m : Nat} {N id : Nat} {l : List Oper} {Q : Exit → Act → World → Prop} {T : Nat → PV} {H : Nat → Option Blk'} {n : Nat} {K : (Nat → PV) → (Nat → Option Blk') → Nat → List Fp → Prop}
    (hm : P.follows .mixedOrders = true) (hnd : l.all nd = true) (h : Runs P N l.toArray l T H n [] K) (hK0 : ∀ T' H' n' fp, K T' H' n' fp → ordOk l fp = true)
    (c : Cx) (a : Act) (hs : HSim c) (ts : TSim c T a N) (hH : c.H = H) (hB : ∀ i, c.B i → i < n)
    (hK : ∀ T' H' n' fp', K T' H' n' fp' → ∀ c' a', Reach P N c a T' H' n' c' a' → Q .normal a' c'.w) : (Code.region id l.toArray true).wpIn (rf R0) m P Q a c.w := by
  obtain ⟨s, f, h0, hst, hk⟩ := runs_chain l ⟨T, H, n⟩ [] K h
  have hord := hK0 _ _ _ _ hk
  rw [List.nil_append] at hk hord
  unfold ordOk at hord
  simp only [Bool.and_eq_true, List.all_eq_true, List.mem_range] at hord
  obtain ⟨hback, hcl⟩ := hord
  have hback' : ∀ j o, l[j]? = some o → ∀ e ∈ o.after, Region.binds .any e = true → e.on < j := by
    intro j o hj e he hb
    have := hback (o, j) (List.mem_zipIdx_iff_getElem?.2 hj)
    simp only [List.all_eq_true] at this
    have h1 := this e (by simpa using he)
    simpa [hb] using h1
  have hfj : ∀ j, j < l.length → ((List.range l.length).map f).getD j ([], []) = f j := by
    intro j hj
    simp [List.getD_eq_getElem?_getD, hj]
  have hcl' : ∀ i j o p, i < j → l[i]? = some o → l[j]? = some p → clash l.toArray o p (f i) (f j) = true → i ∈ (aheads l).getD j [] := by
    intro i j o p hij hi hj hc
    have hil := (List.getElem?_eq_some_iff.1 hi).1
    have hjl := (List.getElem?_eq_some_iff.1 hj).1
    have := hcl j hjl i hij
    rw [hi, hj, hfj i hil, hfj j hjl] at this
    simpa [hc] using this
  refine wpIn_region_any hm ?_
  have hrep : ∀ i, (Array.replicate l.toArray.size false).getD i false = false := by
    intro i
    by_cases h1 : i < l.length
    · simp [h1]
    · simp [h1]
  -- the world in which the order has been drawn
  have hext : Ext c { c with w := { c.w with drawn := c.w.drawn + 1 } } :=
    ⟨rfl, rfl, rfl, Nat.le_refl _, rfl, fun _ h => h, fun _ _ _ => rfl, fun _ _ _ _ _ => rfl, fun _ x hx => .inl ⟨x, hx, rfl, Nat.le_refl _⟩, fun _ b' _ hb => ⟨b', hb, Nat.le_refl _, fun _ => ⟨rfl, rfl, Nat.le_refl _⟩⟩⟩
  have hs1 : HSim { c with w := { c.w with drawn := c.w.drawn + 1 } } := ⟨hs.born, fun i b hb => by
    exact (hs.blk i b hb).ext hext, hs.inj, hs.Vlt, hs.Vown⟩
  have ts1 := ts.ext hext
  refine mid_all hnd (s := s) (f := f) (c0 := { c with w := { c.w with drawn := c.w.drawn + 1 } }) (a0 := a) hst hs1 (by rw [h0]; exact hB) hcl' hback' ?_ l.toArray.size _ { c with w := { c.w with drawn := c.w.drawn + 1 } } a (by simp) ?_ ?_ ?_
  · intro c' a' hm'
    refine hK _ _ _ _ hk c' a' ⟨hext.trans hm'.ext hs, hm'.hs, ⟨hm'.size, fun t => ?_⟩, ?_, ?_, hm'.defers⟩
    · obtain ⟨k, h1, h2, h3⟩ := hm'.tmp t
      have : (s k).T t = (s l.length).T t := cut_eq (fun i => (s i).T t) (fun i => ∃ o', l[i]? = some o' ∧ o'.dst = some t) l.length (fun i hi hn => step_dst (hst i l[i] (List.getElem?_eq_getElem hi)) fun e => hn ⟨_, List.getElem?_eq_getElem hi, e⟩) (fun i => i < l.length) l.length k (Nat.le_refl _) h1 (fun i hi ⟨o', h4, h5⟩ => h3 i o' h4 h5) (fun i hi _ => hi) (fun i h4 h5 _ => by omega)
      rw [← this]; exact h2
    · funext d
      obtain ⟨k, h1, h2, h3⟩ := hm'.heap d
      rw [h2]
      exact cut_eq (fun i => (s i).H d) (fun i => i < l.length ∧ d ∈ (f i).2) l.length (fun i hi hn => step_heap (hst i l[i] (List.getElem?_eq_getElem hi)) fun e => hn ⟨hi, e⟩) (fun i => i < l.length) l.length k (Nat.le_refl _) h1 (fun i hi ⟨h4, h5⟩ => h3 i h4 h5) (fun i hi _ => hi) (fun i h4 h5 _ => by omega)
    · intro d hd
      rcases (hm'.born d).1 hd with h1 | ⟨i, h1, h2, h3, h4⟩
      · have h5 := hB d h1
        have := run_mono hst l.length 0 (by omega)
        rw [h0, Nat.zero_add] at this
        exact Nat.lt_of_lt_of_le h5 this
      · have := run_mono hst (l.length - (i + 1)) (i + 1) (by omega)
        rw [show i + 1 + (l.length - (i + 1)) = l.length by omega] at this
        omega
  · rw [List.countP_eq_length.2]
    · simp
    · intro i hi
      have : i < l.length := by simpa using hi
      simp [this]
  · intro j o _ h1
    rw [hrep] at h1; cases h1
  · refine ⟨Ext.refl _, hs1, ts1.size, fun t => ⟨0, by omega, ?_, fun i _ _ _ => ?_⟩, fun d => ⟨0, by omega, ?_, fun i _ _ => ?_⟩, fun d => ?_, rfl⟩
    · rw [h0]; exact ts1.at_ t
    · simp only [hrep]; simp
    · rw [h0]; exact congrFun hH d
    · simp only [hrep]; simp
    · simp only [hrep]; simp
end Go.Proofs.Ythnjhhohfhnhgaa
