/- A region whose order is drawn, walked once by a plan: operations that yield a known value in every later world are taken as soon as they may come up; those that turn the world come one by one (or are branched over); what is forced at the end is walked in its order. -/
import Derived.OrdersHeld
import Derived.StillTail
import Derived.Deep.Quiet
import Derived.Laws.World
namespace Go.Proofs.Ytbkmfoelaapkaaa
open Go

/-- Operations that yield a value (or end), and never step into other code. -/
def plainOp : Op → Bool
  | .move _ | .assign _ | .pick .. | .load .. | .nilCheck _ | .binOp .. | .unOp .. | .convert .. | .slice .. | .fieldAddr .. | .field .. | .indexAddr .. | .index ..
  | .makeInterface .. | .extract .. | .build .. | .typeAssert .. | .lookup .. | .sliceToArrayPointer .. | .makeFunc .. => true
  | .call { callee := .builtin b, .. } => b == .len || b == .cap || b == .min || b == .max
  | _ => false

/-- It yields a value, or ends. -/
def Vals (s : Sem Next) : Prop := ∀ (P : Program) (w w' : World) (n : Next), s.run P w = .ok n w' → ∃ u, n = .value u
theorem Vals.pure (v : Value) : Vals (Pure.pure (Next.value v)) := fun P w w' n h => by
  change Result.ok (Next.value v) w = .ok n w' at h
  injection h with h1; exact ⟨v, h1.symm⟩
theorem Vals.bind {α : Type} (x : Sem α) (f : α → Sem Next) (h : ∀ a, Vals (f a)) : Vals (x >>= f) := fun P w w' n hr => by
  change (x.bind f).run P w = _ at hr
  rw [Sem.run_bind'] at hr
  cases hs : x.run P w with
  | ok a w1 => rw [hs] at hr; exact h a P w1 w' n hr
  | halt y w1 => rw [hs] at hr; simp only [Result.andThen_halt] at hr; cases hr
theorem Vals.v (s : Sem Value) : Vals (do Pure.pure (Next.value (← s))) := Vals.bind s _ fun a => Vals.pure a
theorem Vals.halt (h : Halt) : Vals (Sem.halt h) := fun P w w' n hr => by simp only [Sem.run] at hr; cases hr

theorem plain_value (ρ : Operand → Value) (o : Oper) (hp : plainOp o.op = true) : Vals (execOp ρ o) := by
  obtain ⟨dst, op, type, pos, after, guard⟩ := o
  cases op with
  | move x => exact Vals.pure _
  | assign x => exact Vals.pure _
  | call c =>
    obtain ⟨cal, args, tys⟩ := c
    cases cal with
    | builtin b => cases b <;> simp only [plainOp] at hp <;> first | (exact absurd hp (by decide)) | exact Vals.v _
    | value f => simp only [plainOp] at hp; cases hp
    | invoke r m => simp only [plainOp] at hp; cases hp
  | pick c a b => exact Vals.bind _ _ fun _ => Vals.pure _
  | load t a => exact Vals.v _
  | nilCheck x =>
    have hnil : Vals (runtimePanic .nilDeref) := Vals.bind _ _ fun _ => Vals.halt _
    unfold execOp
    dsimp only
    split
    · exact hnil
    · exact hnil
    · exact hnil
    · split
      · exact hnil
      · refine Vals.bind _ _ fun p => Vals.bind _ _ fun q => ?_
        split
        · exact Vals.bind _ _ fun _ => Vals.pure _
        · exact Vals.pure _
      · exact Vals.pure _
    · exact Vals.pure _
  | binOp op t x y u => exact Vals.v _
  | unOp op t x => exact Vals.v _
  | convert s d x => exact Vals.v _
  | slice t x a b c => exact Vals.v _
  | fieldAddr t x f => exact Vals.v _
  | field t x f => exact Vals.v _
  | indexAddr t x f => exact Vals.v _
  | index t x f => exact Vals.v _
  | makeInterface t x => exact Vals.v _
  | extract t x => exact Vals.v _
  | build t x => exact Vals.v _
  | typeAssert x t a ok => exact Vals.v _
  | lookup t x i ok => exact Vals.v _
  | sliceToArrayPointer t x => exact Vals.v _
  | makeFunc f a b => exact Vals.v _
  | _ => simp only [plainOp] at hp; cases hp

/-! ### The plan -/
/-- 'takes l p': these, one after the other, each taken first; 'eff i p': it alone may come up; 'fork i j p q': just these two may. -/
inductive Plan where
  | stop
  | takes (l : List Nat) (p : Plan)
  | eff (i : Nat) (p : Plan)
  | fork (i j : Nat) (p q : Plan)

def noExit : Exit → Act → World → Prop := fun _ _ _ => False

section
variable (P : Program) (ops : Array Oper) (St : World → World → Prop) (K : Act → World → Prop)

/-- Operations number l, each yielding one value in all worlds of C, as the walk wants it. -/
def consO : Option Oper → List Oper → List Oper
  | some o, l => o :: l
  | none, l => l
def pick : List Nat → List Oper
  | [] => []
  | i :: l => consO ops[i]? (pick l)

def Plan.wp : Plan → Act → World → Prop
  | .stop, a, w => K a w
  | .takes l p, a, w => wpQuiet P ops (St w) (fun a' => p.wp a' w) (pick ops l) a
  | .eff i p, a, w => wpList P ops (fun e a' w' => e = .normal ∧ St w w' ∧ p.wp a' w') (pick ops [i]) a w
  | .fork i j p q, a, w => wpList P ops (fun e a' w' => e = .normal ∧ St w w' ∧ p.wp a' w') (pick ops [i]) a w ∧ wpList P ops (fun e a' w' => e = .normal ∧ St w w' ∧ q.wp a' w') (pick ops [j]) a w
end

def takesB (md : Region.Mode) (ops : Array Oper) (n : Nat) : List Nat → Array Bool → Option (Array Bool)
  | [], listed => some listed
  | i :: l, listed =>
    if decide (i < n) && ((ops[i]?).map fun o => plainOp o.op).getD false && (Region.ready md ops listed).contains i && Region.free md ops listed i then takesB md ops n l (listed.setIfInBounds i true) else none
def Plan.okB (md : Region.Mode) (ops : Array Oper) (n : Nat) : Plan → Array Bool → Bool
  | .stop, listed => Region.seqB md ops (ops.size - n) n listed
  | .takes l p, listed => match takesB md ops n l listed with
    | some listed' => p.okB md ops n listed'
    | none => false
  | .eff i p, listed => decide (i < n) && decide (Region.ready md ops listed = [i]) && p.okB md ops n (listed.setIfInBounds i true)
  | .fork i j p q, listed => decide (i < n) && decide (j < n) && decide (Region.ready md ops listed = [i, j]) && p.okB md ops n (listed.setIfInBounds i true) && q.okB md ops n (listed.setIfInBounds j true)
def Plan.fuel : Plan → Nat
  | .stop => 0
  | .takes l p => l.length + p.fuel
  | .eff _ p => p.fuel + 1
  | .fork _ _ p _ => p.fuel + 1
/-- Both arms of a fork are of one length. -/
def Plan.even : Plan → Bool
  | .stop => true
  | .takes _ p => p.even
  | .eff _ p => p.even
  | .fork _ _ p q => p.even && q.even && decide (p.fuel = q.fuel)

section
variable {P : Program} {ops : Array Oper} {md : Region.Mode} {St : World → World → Prop}

/-- Whatever order is picked among the first n operations: each step leads on by St; L at the end of it. -/
def wpHead (P : Program) (md : Region.Mode) (ops : Array Oper) (St : World → World → Prop) (n : Nat) (L : Array Bool → Act → World → Prop) : Nat → Array Bool → Act → World → Prop
  | 0, listed, a, w => L listed a w
  | f + 1, listed, a, w =>
    Region.ready md ops listed ≠ [] ∧ ∀ i ∈ Region.ready md ops listed, i < n ∧ wpOp P ops noExit i (fun a' w' => St w w' ∧ wpHead P md ops St n L f (listed.setIfInBounds i true) a' w') a w

theorem letsOut_noExit : ¬ LetsOut noExit := fun ⟨_, _, h⟩ => h
theorem Oper.wp_out {o : Oper} {a : Act} {w : World} {K : Act → World → Prop} {Q Q' : Exit → Act → World → Prop} (hQ : ∀ e a w, e ≠ .normal → Q e a w → Q' e a w) (h : o.wp P a w K Q) : o.wp P a w K Q' := by
  unfold Oper.wp at *
  generalize (execOp a.eval o).run P w = r at *
  cases r with
  | ok n w' =>
    cases n <;> simp only [Oper.upon] at h ⊢ <;> try exact h
    case enter f args =>
      refine Calls.mono h fun e w'' he => ?_
      cases e with
      | returned u => exact he
      | panicked c => exact hQ _ _ _ (by simp) he
      | outgrown => exact ⟨he.choose, he.choose_spec.choose, hQ _ _ _ (by simp) he.choose_spec.choose_spec⟩
  | halt x w' =>
    cases x <;> simp only [Oper.upon] at h ⊢ <;> try exact h
    case panic u => exact hQ _ _ _ (by simp) h
theorem wpOp_out {i : Nat} {K : Act → World → Prop} {a : Act} {w : World} {Q : Exit → Act → World → Prop} (h : wpOp P ops noExit i K a w) : wpOp P ops Q i K a w := by
  unfold wpOp at *
  split
  · rename_i ho; simp only [ho] at h; exact h
  · rename_i o ho
    simp only [ho] at h
    split
    · rename_i hw
      simp only [hw, if_true] at h
      rcases h with h | ⟨_, h⟩
      · exact .inl (Oper.wp_out (fun _ _ _ _ h => h.elim) h)
      · exact absurd h letsOut_noExit
    · rename_i hw; simp only [hw] at h; exact h

theorem wpAny_of_head' {n g : Nat} {L : Array Bool → Act → World → Prop} {Q' : Exit → Act → World → Prop} (hL : ∀ listed a w, L listed a w → wpAny P md ops Q' g listed a w) :
    ∀ (f : Nat) (listed : Array Bool) (a : Act) (w : World), wpHead P md ops St n L f listed a w → wpAny P md ops Q' (f + g) listed a w
  | 0, listed, a, w, h => by rw [Nat.zero_add]; exact hL _ _ _ h
  | f + 1, listed, a, w, h => by
    rw [show f + 1 + g = (f + g) + 1 by omega]
    exact ⟨fun h0 => absurd h0 h.1, fun i hi => wpOp_out (wpOp_mono (fun a' w' h' => wpAny_of_head' hL f _ a' w' h'.2) (h.2 i hi).2)⟩

/-- One that may come up now and yields its value in all later worlds may be taken first. -/
theorem wpHead_first {n i : Nat} {oi : Oper} {v : Value} {L : Array Bool → Act → World → Prop} (hi : ops[i]? = some oi) (hsel : ∀ (j : Nat) (o : Oper) cs b, ops[j]? = some o → o.op ≠ .select cs b)
    (hrefl : ∀ w, St w w) (htr : ∀ u v w, St u v → St v w → St u w)
    (hlt : ∀ listed : Array Bool, HeadInv md ops n listed → listed.getD i true = false → ∀ j ∈ Region.ready md ops listed, j < n) (hin : i < n)
    (hdone : ∀ listed a w, L listed a w → ∀ j ∈ Region.ready md ops listed, n ≤ j) :
    ∀ (f : Nat) (listed : Array Bool) (a : Act) (w : World), HeadInv md ops n listed →
      (∀ j oj, ops[j]? = some oj → j ≠ i → listed.getD j true = false → (∀ e ∈ oj.after, Region.binds md e = true → e.on ≠ i) → oi.apart ops oj = true) →
      i ∈ Region.ready md ops listed → YieldsIf P ops (St w) oi v a →
      wpHead P md ops St n L f (listed.setIfInBounds i true) (a.put oi.dst v) w → wpHead P md ops St n L (f + 1) listed a w := by
  intro f
  induction f with
  | zero =>
    intro listed a w inv _ hr hy H
    have hun := (mem_ready.1 hr).1
    refine ⟨fun h => (by rw [h] at hr; cases hr), fun j hj => ?_⟩
    have hjn : j < n := hlt listed inv hun j hj
    refine ⟨hjn, ?_⟩
    by_cases hji : j = i
    · subst hji; exact hy.wpOp hi (hrefl w) ⟨hrefl w, H⟩
    · have := hdone _ _ _ H j (ready_mono hj hji)
      omega
  | succ f ih =>
    intro listed a w inv hfree hr hy H
    have hun := (mem_ready.1 hr).1
    refine ⟨fun h => (by rw [h] at hr; cases hr), fun j hj => ?_⟩
    have hjn : j < n := hlt listed inv hun j hj
    refine ⟨hjn, ?_⟩
    by_cases hji : j = i
    · subst hji; exact hy.wpOp hi (hrefl w) ⟨hrefl w, H⟩
    · have h1 := (H.2 j (ready_mono hj hji)).2
      obtain ⟨hjun, oj, hoj, hall⟩ := mem_ready.1 hj
      have hnot : ∀ e ∈ oj.after, Region.binds md e = true → e.on ≠ i := fun e he hb heq => by
        have h1 := hall e he hb
        rw [heq, getD_both hun] at h1
        cases h1
      have h2 := wpOp_putIf (Q := noExit) hoj (hfree j oj hoj hji hjun hnot) (fun cs b => hsel i oi cs b hi) (fun cs b => hsel j oj cs b hoj) (fun _ _ _ h => h) hy h1
      have hfree' : ∀ k ok, ops[k]? = some ok → k ≠ i → (listed.setIfInBounds j true).getD k true = false →
          (∀ e ∈ ok.after, Region.binds md e = true → e.on ≠ i) → oi.apart ops ok = true := fun k ok hk hki hun hno => by
        refine hfree k ok hk hki ?_ hno
        by_cases hjk : j = k
        · subst hjk; exact hjun
        · rw [getD_set_ne true hjk] at hun; exact hun
      refine wpOp_mono (fun a' w' h3 => ⟨h3.2.1, ih (listed.setIfInBounds j true) a' w' (inv.set hj hjn) hfree' (ready_mono hr (Ne.symm hji)) ?_ ?_⟩) h2
      · exact h3.1.imp (fun ⟨x, y⟩ => ⟨x, fun u hu => y u (htr _ _ _ h3.2.1 hu)⟩) id
      · rw [Array.setIfInBounds_comm _ _ hji]
        exact h3.2.2

theorem yieldsIf_of_quiet {o : Oper} {a : Act} {C : World → Prop} {K : Act → Prop} (hp : plainOp o.op = true)
    (h : if Region.wanted o (yielded ops a.tmps) then o.quiet P a C K else K (a.put o.dst undef)) : ∃ v, YieldsIf P ops C o v a ∧ K (a.put o.dst v) := by
  by_cases hw : Region.wanted o (yielded ops a.tmps) = true
  · rw [if_pos hw] at h
    obtain ⟨v, h1, h2⟩ := h
    refine ⟨v, .inl ⟨hw, fun w hc => ?_⟩, h2⟩
    have h3 := h1 w hc
    unfold Oper.quietAt at h3
    cases hr : (execOp a.eval o).run P w with
    | ok nx w' =>
      rw [hr] at h3
      obtain ⟨u, rfl⟩ := plain_value a.eval o hp P w w' nx hr
      simp only [Oper.quietUpon] at h3
      rw [h3.1, h3.2]
    | halt x w' => rw [hr] at h3; simp only [Oper.quietUpon] at h3
  · rw [if_neg hw] at h
    exact ⟨undef, .inr ⟨by simpa using hw, rfl⟩, h⟩

theorem head_of_quiet {n : Nat} {K : Act → World → Prop} {p : Plan} (hsel : Region.noSelect ops = true) (hrefl : ∀ w, St w w) (htr : ∀ u v w, St u v → St v w → St u w)
    (hlt : ∀ i, i < n → ∀ listed : Array Bool, HeadInv md ops n listed → listed.getD i true = false → ∀ j ∈ Region.ready md ops listed, j < n)
    (hp : ∀ (listed : Array Bool) (a : Act) (w : World), HeadInv md ops n listed → p.okB md ops n listed = true → p.wp P ops St K a w →
      wpHead P md ops St n (fun listed' a' w' => Region.seqB md ops (ops.size - n) n listed' = true ∧ K a' w') p.fuel listed a w) (w : World) :
    ∀ (l : List Nat) (listed : Array Bool) (a : Act), HeadInv md ops n listed → (Plan.takes l p).okB md ops n listed = true →
      wpQuiet P ops (St w) (fun a' => p.wp P ops St K a' w) (pick ops l) a →
      wpHead P md ops St n (fun listed' a' w' => Region.seqB md ops (ops.size - n) n listed' = true ∧ K a' w') (l.length + p.fuel) listed a w
  | [], listed, a, inv, hB, h => by
    simp only [Plan.okB, takesB] at hB
    simp only [List.length_nil, Nat.zero_add]
    exact hp listed a w inv hB h
  | i :: l, listed, a, inv, hB, h => by
    simp only [Plan.okB, takesB] at hB
    split at hB
    · rename_i listed' ht
      split at ht
      · rename_i hc
        simp only [Bool.and_eq_true, decide_eq_true_eq] at hc
        obtain ⟨⟨⟨hin, hpl⟩, hr⟩, hf⟩ := hc
        cases ho : ops[i]? with
        | none => rw [ho] at hpl; simp at hpl
        | some o =>
          rw [ho] at hpl
          have hr' : i ∈ Region.ready md ops listed := by simpa using hr
          have hpk : pick ops (i :: l) = o :: pick ops l := by simp [pick, ho, consO]
          rw [hpk] at h
          obtain ⟨v, hy, hK⟩ := yieldsIf_of_quiet (by simpa using hpl) h
          rw [List.length_cons, show l.length + 1 + p.fuel = (l.length + p.fuel) + 1 by omega]
          exact wpHead_first ho (Region.noSelect_spec hsel) hrefl htr (hlt i hin) hin (fun listed'' a' w' hL => seqB_ready hL.1) _ listed a w inv (Region.free_spec ho hf) hr' hy
            (head_of_quiet hsel hrefl htr hlt hp w l _ _ (inv.set hr' hin) (by simp only [Plan.okB, ht]; exact hB) hK)
      · cases ht
    · cases hB

theorem wpOp_of_list {i : Nat} {K : Act → World → Prop} {a : Act} {w : World} (h : wpList P ops (fun e a' w' => e = .normal ∧ K a' w') (pick ops [i]) a w) : wpOp P ops noExit i K a w := by
  unfold wpOp
  cases ho : ops[i]? with
  | none =>
    simp only [pick, consO, ho, wpList] at h
    exact h.2
  | some o =>
    simp only [pick, consO, ho, wpList] at h
    dsimp only
    split
    · rename_i hw
      rw [if_pos hw] at h
      rcases h with h | ⟨_, _, _, h⟩
      · exact .inl (Oper.wp_out (fun e a w hn h => hn h.1) (Oper.wp_mono (fun a w h => h.2) h))
      · exact absurd h.1 (by simp)
    · rename_i hw
      rw [if_neg hw] at h
      exact h.2

theorem head_of_plan {n : Nat} {K : Act → World → Prop} (hsel : Region.noSelect ops = true) (hrefl : ∀ w, St w w) (htr : ∀ u v w, St u v → St v w → St u w)
    (hlt : ∀ i, i < n → ∀ listed : Array Bool, HeadInv md ops n listed → listed.getD i true = false → ∀ j ∈ Region.ready md ops listed, j < n) :
    ∀ (p : Plan) (listed : Array Bool) (a : Act) (w : World), p.even = true → HeadInv md ops n listed → p.okB md ops n listed = true → p.wp P ops St K a w →
      wpHead P md ops St n (fun listed' a' w' => Region.seqB md ops (ops.size - n) n listed' = true ∧ K a' w') p.fuel listed a w
  | .stop, listed, a, w, _, inv, hB, h => ⟨hB, h⟩
  | .takes l p, listed, a, w, he, inv, hB, h => head_of_quiet hsel hrefl htr hlt (fun listed a w inv hB h => head_of_plan hsel hrefl htr hlt p listed a w he inv hB h) w l listed a inv hB h
  | .eff i p, listed, a, w, he, inv, hB, h => by
    simp only [Plan.okB, Bool.and_eq_true, decide_eq_true_eq] at hB
    obtain ⟨⟨hin, hr⟩, hB⟩ := hB
    refine ⟨by rw [hr]; simp, fun j hj => ?_⟩
    rw [hr] at hj
    obtain rfl : j = i := by simpa using hj
    have hj' : j ∈ Region.ready md ops listed := by rw [hr]; simp
    exact ⟨hin, wpOp_mono (fun a' w' h' => ⟨h'.1, head_of_plan hsel hrefl htr hlt p _ a' w' he (inv.set hj' hin) hB h'.2⟩) (wpOp_of_list h)⟩
  | .fork i j p q, listed, a, w, he, inv, hB, h => by
    simp only [Plan.okB, Bool.and_eq_true, decide_eq_true_eq] at hB
    obtain ⟨⟨⟨⟨hin, hjn⟩, hr⟩, hBi⟩, hBj⟩ := hB
    simp only [Plan.even, Bool.and_eq_true, decide_eq_true_eq] at he
    obtain ⟨⟨hei, hej⟩, hf⟩ := he
    refine ⟨by rw [hr]; simp, fun k hk => ?_⟩
    have hk' := hk
    rw [hr] at hk
    have hk2 : k = i ∨ k = j := by simpa using hk
    rcases hk2 with rfl | rfl
    · exact ⟨hin, wpOp_mono (fun a' w' h' => ⟨h'.1, head_of_plan hsel hrefl htr hlt p _ a' w' hei (inv.set hk' hin) hBi h'.2⟩) (wpOp_of_list h.1)⟩
    · refine ⟨hjn, wpOp_mono (fun a' w' h' => ⟨h'.1, ?_⟩) (wpOp_of_list h.2)⟩
      have := head_of_plan hsel hrefl htr hlt q _ a' w' hej (inv.set hk' hjn) hBj h'.2
      rwa [← hf] at this
end

def planB (md : Region.Mode) (ops : Array Oper) (n : Nat) (p : Plan) : Bool :=
  Region.noSelect ops && (decide (n = ops.size) || decide (n < ops.size) && Region.sinkB md ops n && Region.chainB md ops n) && p.even && decide (p.fuel = n) && p.okB md ops n (Array.replicate ops.size false)

/-- **THE RULE**: a region that draws its order, by a plan for its first n operations; the others, in their order, behind them. -/
theorem wp_region_plan {P : Program} {id : Nat} {Q : Exit → Act → World → Prop} {a : Act} {w : World} {l : List Oper} (n : Nat) (p : Plan) (St : World → World → Prop)
    (hm : P.follows .mixedOrders = true) (hB : planB .any l.toArray n p = true) (hrefl : ∀ w, St w w) (htr : ∀ u v w, St u v → St v w → St u w)
    (h : p.wp P l.toArray St (fun a' w' => wpList P l.toArray Q (l.drop n) a' w') a w.drew) : (Code.region id l.toArray true).wp P Q a w := by
  simp only [planB, Bool.and_eq_true, decide_eq_true_eq, Bool.or_eq_true] at hB
  obtain ⟨⟨⟨⟨hsel, hn⟩, he⟩, hfu⟩, hok⟩ := hB
  have hnl : n ≤ l.length := by rcases hn with hn | hn <;> simp at hn <;> omega
  have inv0 : HeadInv .any l.toArray n (Array.replicate l.toArray.size false) :=
    ⟨by simp, fun j oj _ hl => (by rw [getD_replicate_false] at hl; cases hl), fun t _ ht => getD_in (by simpa using ht) (getD_replicate_false _ _)⟩
  have hlt : ∀ i, i < n → ∀ listed : Array Bool, HeadInv .any l.toArray n listed → listed.getD i true = false → ∀ j ∈ Region.ready .any l.toArray listed, j < n := by
    intro i hi listed inv hun j hj
    rcases Nat.lt_or_ge j n with h1 | h1
    · exact h1
    · rcases hn with hn | hn
      · obtain ⟨_, o, ho, _⟩ := mem_ready.1 hj
        have := (Array.getElem?_eq_some_iff.1 ho).1
        omega
      · exact absurd hj (tail_waits hn.1.2 hn.2 hn.1.1 inv _ i rfl hi hun j h1)
  have H := head_of_plan hsel hrefl htr hlt p _ a _ he inv0 hok h
  refine wp_region_any hm ?_
  have := wpAny_of_head' (Q' := Q) (g := l.toArray.size - n) (fun listed a' w' hL => by
    have := wpAny_of_seq (md := .any) (Q' := Q) (l.drop n) n listed a' w' (fun j => by simp [List.getElem?_drop]) (by simpa using hL.1) hL.2
    simpa using this) _ _ _ _ H
  rw [hfu, show n + (l.toArray.size - n) = l.toArray.size by simp; omega] at this
  exact this

/-- The same where nothing in the head turns the world. -/
theorem wp_region_eq {P : Program} {id : Nat} {Q : Exit → Act → World → Prop} {a : Act} {w : World} {l : List Oper} (n : Nat) (p : Plan)
    (hm : P.follows .mixedOrders = true) (hB : planB .any l.toArray n p = true)
    (h : p.wp P l.toArray (fun u v => u = v) (fun a' w' => wpList P l.toArray Q (l.drop n) a' w') a w.drew) : (Code.region id l.toArray true).wp P Q a w :=
  wp_region_plan n p (fun u v => u = v) hm hB (fun _ => rfl) (fun _ _ _ h k => h.trans k) h

end Go.Proofs.Ytbkmfoelaapkaaa
