/- The deeds of chapter 15's laws: few, do. -/
import Derived.Test.YthnjhhohfhnhgaaSlabW
import Derived.Test.YthnjhhohfhnhgaaSlabP
namespace Go.Proofs.Ythnjhhohfhnhgaa
open Go Go.RowKit
set_option maxRecDepth 10000

structure Deed where
  kind : Int
  at_ : Int
  n : Int
  x : UInt8
  sc : List Scr
def deedPV (d : Deed) : List PV := [.int .i64 d.kind, .int .i64 d.at_, .int .i64 d.n, .int .u8 (d.x.toNat : Int), .ro false d.sc.length (scarsPV d.sc)]
instance deed_cl (d : Deed) : ClL (deedPV d) := inferInstanceAs (ClL [.int .i64 d.kind, .int .i64 d.at_, .int .i64 d.n, .int .u8 (d.x.toNat : Int), .ro false d.sc.length (scarsPV d.sc)])
abbrev deedsPV (l : List Deed) : List PV := l.flatMap deedPV
theorem deed_len (d : Deed) : (deedPV d).length = 5 := rfl
/-- Whether the bytes of all scars are short. -/
def shortB (l : List Scr) : Bool := l.all fun x => decide (x.2.length ≤ 1000)
def fewGo : List Deed → Nat → Nat → Bool
  | [], _, _ => true
  | d :: l, i, n => if 60 ≤ i ∨ 200 < n + min d.sc.length 100 then false else if shortB d.sc then fewGo l (i + 1) (n + min d.sc.length 100) else false
def fewB (l : List Deed) : Bool := fewGo l 0 0
def Slb.do_ (s : Slb) (d : Deed) : Slb :=
  if d.kind = 0 then (s.ink d.at_ (plain d.x)).2 else if d.kind = 2 then s.burn.2 else if d.kind = 3 then s.supplied d.n else if d.kind = 4 then s.wake (table d.sc) else s
theorem deed_take (l : List Deed) (i : Nat) (hi : i < l.length) : (l.flatMap deedPV).drop (i * 5) = deedPV l[i] ++ (l.drop (i + 1)).flatMap deedPV := at_fm deed_len l i hi
theorem few_ctr (l : List Deed) (hl : l.length ≤ 9223372036854775807) (hsc : ∀ d ∈ l, d.sc.length ≤ 9223372036854775807) (hb : ∀ d ∈ l, ∀ x ∈ d.sc, x.2.length ≤ 9223372036854775807) : Ctr Try.prog 11 [.ro false l.length (deedsPV l)] (.bool (fewB l)) := by
  refine ctr_go 40 [(0, .ro false l.length (deedsPV l))] Try.func11 rfl rfl rfl (all_cons rfl all_nil) ?_
  (repeat refine lwp_seq_k fun K hK => ?_)
  refine lw_region ?_
  refine RL.qa (oAssign rfl rfl ev_a) ?_
  refine RL.done ?_
  refine hK _ ?_
  clear hK K
  (repeat refine lwp_seq_k fun K hK => ?_)
  refine lw_region ?_
  refine RL.qa (oAssign rfl rfl ev_a) ?_
  refine RL.done ?_
  refine hK _ ?_
  clear hK K
  (repeat refine lwp_seq_k fun K hK => ?_)
  refine lw_region ?_
  refine RL.qa (oMove rfl rfl ev_a) ?_
  first | (refine RL.qa (oLen rfl rfl rfl ev_a (by rfl)) ?_) | (refine RL.qa (oLenStr rfl rfl rfl ev_a) ?_) | (refine RL.qa (oLenArr rfl rfl rfl) ?_)
  refine RL.qa (oMove rfl rfl ev_a) ?_
  refine RL.done ?_
  refine hK _ ?_
  clear hK K
  have hres : fewB l = fewGo (l.drop 0) 0 0 := rfl
  generalize fewB l = res at *
  (repeat refine lwp_seq_k fun K hK => ?_)
  refine lwp_block ?_
  refine lwp_loopR (fun q st => ∃ (j n : Nat), q = l.length - j ∧ j ≤ l.length ∧ j ≤ 60 ∧ n ≤ 200 ∧ res = fewGo (l.drop j) j n ∧ st = St' [(3, .int .i64 n), (8, .ro false l.length (deedsPV l)), (9, .int .i64 l.length), (10, .int .i64 j)] [] 0) l.length _
    (lessR_of [] [] rfl (by decide) (fun m hm => by first | omega | simp at hm) (by simp) (all_cons ⟨_, by ((repeat (apply Lk.there; focus rfl)); exact Lk.here), (by first | exact .eq rfl | exact .opI rfl | exact .osI rfl | exact .mpI rfl | exact .cv | exact .wk (.eq rfl) (Wk.junk _))⟩ (all_cons ⟨_, by ((repeat (apply Lk.there; focus rfl)); exact Lk.here), (by first | exact .eq rfl | exact .opI rfl | exact .osI rfl | exact .mpI rfl | exact .cv | exact .wk (.eq rfl) (Wk.junk _))⟩ (all_cons ⟨_, by ((repeat (apply Lk.there; focus rfl)); exact Lk.here), (by first | exact .eq rfl | exact .opI rfl | exact .osI rfl | exact .mpI rfl | exact .cv | exact .wk (.eq rfl) (Wk.junk _))⟩ (all_cons ⟨_, by ((repeat (apply Lk.there; focus rfl)); exact Lk.here), (by first | exact .eq rfl | exact .opI rfl | exact .osI rfl | exact .mpI rfl | exact .cv | exact .wk (.eq rfl) (Wk.junk _))⟩ all_nil)))) all_nil) ⟨0, 0, rfl, Nat.zero_le _, Nat.zero_le _, Nat.zero_le _, hres, rfl⟩ ?_
  rintro q _ ⟨j, n, rfl, hj, hj6, hn2, hr, rfl⟩
  clear hres
  by_cases hlt : j < l.length
  · rw [List.drop_eq_getElem_cons hlt] at hr
    have hd1 := hsc _ (List.getElem_mem hlt)
    have hd2 := hb _ (List.getElem_mem hlt)
    have htk := deed_take l j hlt
    generalize l[j] = d at *
    (repeat refine lwp_seq_k fun K hK => ?_)
    refine lw_region ?_
    refine RL.qa (oBin (v := .bool true) rfl rfl ev_a ev_a (by simp [binI]; omega)) ?_
    refine RL.done ?_
    refine hK _ ?_
    clear hK K
    (repeat refine lwp_seq_k fun K hK => ?_)
    refine lw_condT (by (first | (apply ev_tmp; ((repeat (apply Lk.there; focus rfl)); exact Lk.here)) | exact ev_cint | exact ev_cbool | exact ev_cnilp | exact ev_cnils | exact ev_func | exact ev_cstr | exact ev_cnilf | exact ev_cnili)) ?_
    refine lwp_skip (hK _ ?_)
    clear hK K
    (repeat refine lwp_seq_k fun K hK => ?_)
    refine lwp_block ?_
    (repeat refine lwp_seq_k fun K hK => ?_)
    refine lw_region ?_
    refine RL.qa (oMove rfl rfl ev_a) ?_
    refine RL.qa (oIndexRo rfl rfl ev_a ev_a (by omega) (by omega) (by decide) (length_fm deed_len l)) ?_
    refine RL.qa (oLoadA (ys := [.int .i64 d.kind, .int .i64 d.at_, .int .i64 d.n, .int .u8 (d.x.toNat : Int), .ro false d.sc.length (scarsPV d.sc)]) rfl rfl ev_a (by rfl) (by rfl) (by rw [Int.toNat_natCast, htk]; simp [deedPV]) (by rw [Int.toNat_natCast, htk]; rfl)) ?_
    refine RL.wa (oAlloc 1 (Nat.succ_pos 0) rfl rfl (by rfl)) ?_
    refine RL.qa (oAssign rfl rfl ev_a) ?_
    refine RL.w0a (oStore rfl rfl ev_a (by rfl) (by rfl) ev_a (by rfl) (by simp [cellsPV, leaf]) (by rfl) (Nat.zero_le _) (by first | exact Nat.le_of_ble_eq_true rfl | (simp [length_setAt, length_secs, slabS, slabL]; first | done | omega)) (by rfl)) ?_
    refine RL.done ?_
    refine hK _ ?_
    clear hK K
    (repeat refine lwp_seq_k fun K hK => ?_)
    refine lw_region ?_
    refine RL.qa (oMove rfl rfl ev_a) ?_
    refine RL.qa (oFieldAddr rfl rfl ev_a (by decide) (by rfl)) ?_
    refine RL.qa (oLoad rfl rfl ev_a (by rfl) (by rfl)) ?_
    first | (refine RL.qa (oLen rfl rfl rfl ev_a (by rfl)) ?_) | (refine RL.qa (oLenStr rfl rfl rfl ev_a) ?_) | (refine RL.qa (oLenArr rfl rfl rfl) ?_)
    refine RL.qa (oMinN (b := 100) rfl rfl ev_a ev_a) ?_
    refine RL.qa (oArith (r := (n + min d.sc.length 100 : Nat)) rfl rfl ev_a ev_a (by simp [binI]) (by omega) (by omega)) ?_
    refine RL.qa (oAssign rfl rfl ev_a) ?_
    refine RL.done ?_
    refine hK _ ?_
    clear hK K
    simp only [fewGo] at hr
    by_cases h1 : 60 ≤ j ∨ 200 < n + min d.sc.length 100
    · rw [if_pos h1] at hr
      subst hr
      by_cases h2 : 60 ≤ j
      · (repeat refine lwp_seq_k fun K hK => ?_)
        refine lw_region ?_
        refine RL.qa (oMove rfl rfl ev_a) ?_
        refine RL.qa (oBin (v := .bool true) rfl rfl ev_a ev_a (by simp [binI]; omega)) ?_
        refine RL.qa (oMove rfl rfl ev_a) ?_
        first | (refine RL.skipA ?_) | (refine RL.wantA ?_; refine RL.qa (oMove rfl rfl ev_a) ?_)
        first | (refine RL.skipA ?_) | (refine RL.wantA ?_; refine RL.qa (oBin rfl rfl ev_a ev_a (by rfl)) ?_)
        first | (refine RL.qa (oPickT rfl rfl ev_a ev_a) ?_) | (refine RL.qa (oPickF rfl rfl ev_a ev_a) ?_)
        refine RL.done ?_
        refine hK _ ?_
        clear hK K
        (repeat refine lwp_seq_k fun K hK => ?_)
        refine lw_condT (by (first | (apply ev_tmp; ((repeat (apply Lk.there; focus rfl)); exact Lk.here)) | exact ev_cint | exact ev_cbool | exact ev_cnilp | exact ev_cnils | exact ev_func | exact ev_cstr | exact ev_cnilf | exact ev_cnili)) ?_
        (repeat refine lwp_seq_k fun K hK => ?_)
        refine lw_region ?_
        refine RL.qa (oAssign rfl rfl ev_a) ?_
        refine RL.done ?_
        refine hK _ ?_
        clear hK K
        exact lwp_ret ⟨.inr rfl, ret1c rfl (by ((repeat (apply Lk.there; focus rfl)); exact Lk.here))⟩
      · (repeat refine lwp_seq_k fun K hK => ?_)
        refine lw_region ?_
        refine RL.qa (oMove rfl rfl ev_a) ?_
        refine RL.qa (oBin (v := .bool false) rfl rfl ev_a ev_a (by simp [binI]; omega)) ?_
        refine RL.qa (oMove rfl rfl ev_a) ?_
        first | (refine RL.skipA ?_) | (refine RL.wantA ?_; refine RL.qa (oMove rfl rfl ev_a) ?_)
        refine RL.wantA ?_
        refine RL.qa (oBin (v := .bool true) rfl rfl ev_a ev_a (by simp [binI]; omega)) ?_
        first | (refine RL.qa (oPickT rfl rfl ev_a ev_a) ?_) | (refine RL.qa (oPickF rfl rfl ev_a ev_a) ?_)
        refine RL.done ?_
        refine hK _ ?_
        clear hK K
        (repeat refine lwp_seq_k fun K hK => ?_)
        refine lw_condT (by (first | (apply ev_tmp; ((repeat (apply Lk.there; focus rfl)); exact Lk.here)) | exact ev_cint | exact ev_cbool | exact ev_cnilp | exact ev_cnils | exact ev_func | exact ev_cstr | exact ev_cnilf | exact ev_cnili)) ?_
        (repeat refine lwp_seq_k fun K hK => ?_)
        refine lw_region ?_
        refine RL.qa (oAssign rfl rfl ev_a) ?_
        refine RL.done ?_
        refine hK _ ?_
        clear hK K
        exact lwp_ret ⟨.inr rfl, ret1c rfl (by ((repeat (apply Lk.there; focus rfl)); exact Lk.here))⟩
    · rw [if_neg h1] at hr
      (repeat refine lwp_seq_k fun K hK => ?_)
      refine lw_region ?_
      refine RL.qa (oMove rfl rfl ev_a) ?_
      refine RL.qa (oBin (v := .bool false) rfl rfl ev_a ev_a (by simp [binI]; omega)) ?_
      refine RL.qa (oMove rfl rfl ev_a) ?_
      first | (refine RL.skipA ?_) | (refine RL.wantA ?_; refine RL.qa (oMove rfl rfl ev_a) ?_)
      refine RL.wantA ?_
      refine RL.qa (oBin (v := .bool false) rfl rfl ev_a ev_a (by simp [binI]; omega)) ?_
      first | (refine RL.qa (oPickT rfl rfl ev_a ev_a) ?_) | (refine RL.qa (oPickF rfl rfl ev_a ev_a) ?_)
      refine RL.done ?_
      refine hK _ ?_
      clear hK K
      (repeat refine lwp_seq_k fun K hK => ?_)
      refine lw_condF (by (first | (apply ev_tmp; ((repeat (apply Lk.there; focus rfl)); exact Lk.here)) | exact ev_cint | exact ev_cbool | exact ev_cnilp | exact ev_cnils | exact ev_func | exact ev_cstr | exact ev_cnilf | exact ev_cnili)) ?_
      refine lwp_skip (hK _ ?_)
      clear hK K
      (repeat refine lwp_seq_k fun K hK => ?_)
      refine lw_region ?_
      refine RL.qa (oFieldAddr rfl rfl ev_a (by decide) (by rfl)) ?_
      refine RL.qa (oLoad rfl rfl ev_a (by rfl) (by rfl)) ?_
      first | (refine RL.qa (oLen rfl rfl rfl ev_a (by rfl)) ?_) | (refine RL.qa (oLenStr rfl rfl rfl ev_a) ?_) | (refine RL.qa (oLenArr rfl rfl rfl) ?_)
      refine RL.qa (oMove rfl rfl ev_a) ?_
      refine RL.done ?_
      refine hK _ ?_
      clear hK K
      have hr2 : res = if shortB (d.sc.drop 0) then fewGo (l.drop (j + 1)) (j + 1) (n + min d.sc.length 100) else false := hr
      refine lwp_block ?_
      refine lwp_loopR (fun q st => ∃ (p : Nat), q = d.sc.length - p ∧ p ≤ d.sc.length ∧ (res = if shortB (d.sc.drop p) then fewGo (l.drop (j + 1)) (j + 1) (n + min d.sc.length 100) else false) ∧ st = St' [(3, .int .i64 (n + min d.sc.length 100 : Nat)), (8, .ro false l.length (deedsPV l)), (9, .int .i64 l.length), (10, .int .i64 j), (28, .ro false d.sc.length (scarsPV d.sc)), (29, .int .i64 d.sc.length), (30, .int .i64 p)] [] 0) d.sc.length _
        (lessR_of [] [] rfl (by decide) (fun m hm => by first | omega | simp at hm) (by simp) (all_cons ⟨_, by ((repeat (apply Lk.there; focus rfl)); exact Lk.here), (by first | exact .eq rfl | exact .opI rfl | exact .osI rfl | exact .mpI rfl | exact .cv | exact .wk (.eq rfl) (Wk.junk _))⟩ (all_cons ⟨_, by ((repeat (apply Lk.there; focus rfl)); exact Lk.here), (by first | exact .eq rfl | exact .opI rfl | exact .osI rfl | exact .mpI rfl | exact .cv | exact .wk (.eq rfl) (Wk.junk _))⟩ (all_cons ⟨_, by ((repeat (apply Lk.there; focus rfl)); exact Lk.here), (by first | exact .eq rfl | exact .opI rfl | exact .osI rfl | exact .mpI rfl | exact .cv | exact .wk (.eq rfl) (Wk.junk _))⟩ (all_cons ⟨_, by ((repeat (apply Lk.there; focus rfl)); exact Lk.here), (by first | exact .eq rfl | exact .opI rfl | exact .osI rfl | exact .mpI rfl | exact .cv | exact .wk (.eq rfl) (Wk.junk _))⟩ (all_cons ⟨_, by ((repeat (apply Lk.there; focus rfl)); exact Lk.here), (by first | exact .eq rfl | exact .opI rfl | exact .osI rfl | exact .mpI rfl | exact .cv | exact .wk (.eq rfl) (Wk.junk _))⟩ (all_cons ⟨_, by ((repeat (apply Lk.there; focus rfl)); exact Lk.here), (by first | exact .eq rfl | exact .opI rfl | exact .osI rfl | exact .mpI rfl | exact .cv | exact .wk (.eq rfl) (Wk.junk _))⟩ (all_cons ⟨_, by ((repeat (apply Lk.there; focus rfl)); exact Lk.here), (by first | exact .eq rfl | exact .opI rfl | exact .osI rfl | exact .mpI rfl | exact .cv | exact .wk (.eq rfl) (Wk.junk _))⟩ all_nil))))))) all_nil) ⟨0, rfl, Nat.zero_le _, hr2, rfl⟩ ?_
      rintro q _ ⟨p, rfl, hp, hr3, rfl⟩
      clear hr hr2
      by_cases hlp : p < d.sc.length
      · have hbx := hd2 _ (List.getElem_mem hlp)
        have htx := at_scars d.sc p hlp
        rw [List.drop_eq_getElem_cons hlp] at hr3
        generalize d.sc[p] = x at *
        (repeat refine lwp_seq_k fun K hK => ?_)
        refine lw_region ?_
        refine RL.qa (oBin (v := .bool true) rfl rfl ev_a ev_a (by simp [binI]; omega)) ?_
        refine RL.done ?_
        refine hK _ ?_
        clear hK K
        (repeat refine lwp_seq_k fun K hK => ?_)
        refine lw_condT (by (first | (apply ev_tmp; ((repeat (apply Lk.there; focus rfl)); exact Lk.here)) | exact ev_cint | exact ev_cbool | exact ev_cnilp | exact ev_cnils | exact ev_func | exact ev_cstr | exact ev_cnilf | exact ev_cnili)) ?_
        refine lwp_skip (hK _ ?_)
        clear hK K
        (repeat refine lwp_seq_k fun K hK => ?_)
        refine lwp_block ?_
        (repeat refine lwp_seq_k fun K hK => ?_)
        refine lw_region ?_
        refine RL.qa (oIndexRo rfl rfl ev_a ev_a (by omega) (by omega) (by decide) (length_scars d.sc)) ?_
        refine RL.qa (oLoadA (ys := [.int .i64 x.1, bsl x.2]) rfl rfl ev_a (by rfl) (by rfl) (by rw [Int.toNat_natCast, htx]; simp) (by rw [Int.toNat_natCast, htx]; rfl)) ?_
        refine RL.wa (oAlloc 1 (Nat.succ_pos 0) rfl rfl (by rfl)) ?_
        refine RL.w0a (oStore rfl rfl ev_a (by rfl) (by rfl) ev_a (by rfl) (by simp [cellsPV, leaf]) (by rfl) (Nat.zero_le _) (by first | exact Nat.le_of_ble_eq_true rfl | (simp [length_setAt, length_secs, slabS, slabL]; first | done | omega)) (by rfl)) ?_
        refine RL.done ?_
        refine hK _ ?_
        clear hK K
        by_cases h3 : x.2.length ≤ 1000
        · have e3 : shortB (x :: d.sc.drop (p + 1)) = shortB (d.sc.drop (p + 1)) := by simp [shortB, h3]
          rw [e3] at hr3
          (repeat refine lwp_seq_k fun K hK => ?_)
          refine lw_region ?_
          refine RL.qa (oFieldAddr rfl rfl ev_a (by decide) (by rfl)) ?_
          refine RL.qa (oLoad rfl rfl ev_a (by rfl) (by rfl)) ?_
          first | (refine RL.qa (oLen rfl rfl rfl ev_a (by rfl)) ?_) | (refine RL.qa (oLenStr rfl rfl rfl ev_a) ?_) | (refine RL.qa (oLenArr rfl rfl rfl) ?_)
          refine RL.qa (oBin (v := .bool false) rfl rfl ev_a ev_a (by simp [binI]; omega)) ?_
          refine RL.done ?_
          refine hK _ ?_
          clear hK K
          (repeat refine lwp_seq_k fun K hK => ?_)
          refine lw_condF (by (first | (apply ev_tmp; ((repeat (apply Lk.there; focus rfl)); exact Lk.here)) | exact ev_cint | exact ev_cbool | exact ev_cnilp | exact ev_cnils | exact ev_func | exact ev_cstr | exact ev_cnilf | exact ev_cnili)) ?_
          refine lwp_skip ?_
          show inBlk 3 _ .normal _
          simp only [inBlk, thenL]
          refine hK _ ?_
          clear hK K
          (repeat refine lwp_seq_k fun K hK => ?_)
          refine lw_region ?_
          first | (refine RL.qa (oArith rfl rfl ev_a ev_a (by rfl) (by omega) (by omega)) ?_) | (refine RL.qa (oBin rfl rfl ev_a ev_a (by rfl)) ?_)
          refine RL.qa (oMove rfl rfl ev_a) ?_
          refine RL.done ?_
          exact ⟨_, _, (by omega : d.sc.length - (p + 1) < d.sc.length - p), (lessR_of [] [] rfl (by decide) (fun m hm => by first | omega | simp at hm) (by simp) (all_cons ⟨_, by ((repeat (apply Lk.there; focus rfl)); exact Lk.here), (by first | exact .eq rfl | exact .opI rfl | exact .osI rfl | exact .mpI rfl | exact .cv | exact .wk (.eq rfl) (Wk.junk _))⟩ (all_cons ⟨_, by ((repeat (apply Lk.there; focus rfl)); exact Lk.here), (by first | exact .eq rfl | exact .opI rfl | exact .osI rfl | exact .mpI rfl | exact .cv | exact .wk (.eq rfl) (Wk.junk _))⟩ (all_cons ⟨_, by ((repeat (apply Lk.there; focus rfl)); exact Lk.here), (by first | exact .eq rfl | exact .opI rfl | exact .osI rfl | exact .mpI rfl | exact .cv | exact .wk (.eq rfl) (Wk.junk _))⟩ (all_cons ⟨_, by ((repeat (apply Lk.there; focus rfl)); exact Lk.here), (by first | exact .eq rfl | exact .opI rfl | exact .osI rfl | exact .mpI rfl | exact .cv | exact .wk (.eq rfl) (Wk.junk _))⟩ (all_cons ⟨_, by ((repeat (apply Lk.there; focus rfl)); exact Lk.here), (by first | exact .eq rfl | exact .opI rfl | exact .osI rfl | exact .mpI rfl | exact .cv | exact .wk (.eq rfl) (Wk.junk _))⟩ (all_cons ⟨_, by ((repeat (apply Lk.there; focus rfl)); exact Lk.here), (by first | exact .eq rfl | exact .opI rfl | exact .osI rfl | exact .mpI rfl | exact .cv | exact .wk (.eq rfl) (Wk.junk _))⟩ (all_cons ⟨_, by ((repeat (apply Lk.there; focus rfl)); exact Lk.here), (by first | exact .eq rfl | exact .opI rfl | exact .osI rfl | exact .mpI rfl | exact .cv | exact .wk (.eq rfl) (Wk.junk _))⟩ all_nil))))))) all_nil), p + 1, rfl, by omega, hr3, rfl⟩
        · have e3 : shortB (x :: d.sc.drop (p + 1)) = false := by simp [shortB, h3]
          rw [e3] at hr3
          simp only [Bool.false_eq_true, if_false] at hr3
          subst hr3
          (repeat refine lwp_seq_k fun K hK => ?_)
          refine lw_region ?_
          refine RL.qa (oFieldAddr rfl rfl ev_a (by decide) (by rfl)) ?_
          refine RL.qa (oLoad rfl rfl ev_a (by rfl) (by rfl)) ?_
          first | (refine RL.qa (oLen rfl rfl rfl ev_a (by rfl)) ?_) | (refine RL.qa (oLenStr rfl rfl rfl ev_a) ?_) | (refine RL.qa (oLenArr rfl rfl rfl) ?_)
          refine RL.qa (oBin (v := .bool true) rfl rfl ev_a ev_a (by simp [binI]; omega)) ?_
          refine RL.done ?_
          refine hK _ ?_
          clear hK K
          (repeat refine lwp_seq_k fun K hK => ?_)
          refine lw_condT (by (first | (apply ev_tmp; ((repeat (apply Lk.there; focus rfl)); exact Lk.here)) | exact ev_cint | exact ev_cbool | exact ev_cnilp | exact ev_cnils | exact ev_func | exact ev_cstr | exact ev_cnilf | exact ev_cnili)) ?_
          (repeat refine lwp_seq_k fun K hK => ?_)
          refine lw_region ?_
          refine RL.qa (oAssign rfl rfl ev_a) ?_
          refine RL.done ?_
          refine hK _ ?_
          clear hK K
          exact lwp_ret ⟨.inr rfl, ret1c rfl (by ((repeat (apply Lk.there; focus rfl)); exact Lk.here))⟩
      · obtain rfl : p = d.sc.length := by omega
        have e3 : shortB (d.sc.drop d.sc.length) = true := by simp [shortB]
        rw [e3, if_pos rfl] at hr3
        (repeat refine lwp_seq_k fun K hK => ?_)
        refine lw_region ?_
        refine RL.qa (oBin (v := .bool false) rfl rfl ev_a ev_a (by simp [binI])) ?_
        refine RL.done ?_
        refine hK _ ?_
        clear hK K
        (repeat refine lwp_seq_k fun K hK => ?_)
        refine lw_condF (by (first | (apply ev_tmp; ((repeat (apply Lk.there; focus rfl)); exact Lk.here)) | exact ev_cint | exact ev_cbool | exact ev_cnilp | exact ev_cnils | exact ev_func | exact ev_cstr | exact ev_cnilf | exact ev_cnili)) ?_
        refine lwp_exit ?_
        simp only [thenL, inBlk, if_true]
        clear hK K
        refine hK _ ?_
        clear hK K
        (repeat refine lwp_seq_k fun K hK => ?_)
        refine lw_region ?_
        first | (refine RL.qa (oArith rfl rfl ev_a ev_a (by rfl) (by omega) (by omega)) ?_) | (refine RL.qa (oBin rfl rfl ev_a ev_a (by rfl)) ?_)
        refine RL.qa (oMove rfl rfl ev_a) ?_
        refine RL.done ?_
        exact ⟨_, _, (by omega : l.length - (j + 1) < l.length - j), (lessR_of [] [] rfl (by decide) (fun m hm => by first | omega | simp at hm) (by simp) (all_cons ⟨_, by ((repeat (apply Lk.there; focus rfl)); exact Lk.here), (by first | exact .eq rfl | exact .opI rfl | exact .osI rfl | exact .mpI rfl | exact .cv | exact .wk (.eq rfl) (Wk.junk _))⟩ (all_cons ⟨_, by ((repeat (apply Lk.there; focus rfl)); exact Lk.here), (by first | exact .eq rfl | exact .opI rfl | exact .osI rfl | exact .mpI rfl | exact .cv | exact .wk (.eq rfl) (Wk.junk _))⟩ (all_cons ⟨_, by ((repeat (apply Lk.there; focus rfl)); exact Lk.here), (by first | exact .eq rfl | exact .opI rfl | exact .osI rfl | exact .mpI rfl | exact .cv | exact .wk (.eq rfl) (Wk.junk _))⟩ (all_cons ⟨_, by ((repeat (apply Lk.there; focus rfl)); exact Lk.here), (by first | exact .eq rfl | exact .opI rfl | exact .osI rfl | exact .mpI rfl | exact .cv | exact .wk (.eq rfl) (Wk.junk _))⟩ all_nil)))) all_nil), j + 1, n + min d.sc.length 100, rfl, by omega, by omega, by omega, hr3, rfl⟩
  · obtain rfl : j = l.length := by omega
    rw [List.drop_length] at hr
    simp only [fewGo] at hr
    subst hr
    (repeat refine lwp_seq_k fun K hK => ?_)
    refine lw_region ?_
    refine RL.qa (oBin (v := .bool false) rfl rfl ev_a ev_a (by simp [binI])) ?_
    refine RL.done ?_
    refine hK _ ?_
    clear hK K
    (repeat refine lwp_seq_k fun K hK => ?_)
    refine lw_condF (by (first | (apply ev_tmp; ((repeat (apply Lk.there; focus rfl)); exact Lk.here)) | exact ev_cint | exact ev_cbool | exact ev_cnilp | exact ev_cnils | exact ev_func | exact ev_cstr | exact ev_cnilf | exact ev_cnili)) ?_
    refine lwp_exit ?_
    simp only [thenL, inBlk, if_true]
    clear hK K
    refine hK _ ?_
    clear hK K
    (repeat refine lwp_seq_k fun K hK => ?_)
    refine lw_region ?_
    refine RL.qa (oAssign rfl rfl ev_a) ?_
    refine RL.done ?_
    refine hK _ ?_
    clear hK K
    exact lwp_ret ⟨.inr rfl, ret1c rfl (by ((repeat (apply Lk.there; focus rfl)); exact Lk.here))⟩
theorem ink_plain (s : Slb) (hw : s.wf) (n : Int) (x : UInt8) : SlabC 12 s [.int .i64 n, .ro false 64 (pb (plain x))] (.int .i64 (s.ink n (plain x)).1) (s.ink n (plain x)).2 0 := ink_ctr s n (plain x) hw.1 (by simp [plain])
theorem plain_len (x : UInt8) : (plain x).length = 64 := by simp [plain]
theorem do_ctr (s : Slb) (hw : s.wf) (d : Deed) (hl : d.sc.length ≤ 9223372036854775807) : SlabC 15 s [.agg (deedPV d)] (.tup []) (s.do_ d) 5 := by
  refine ctrO_go 31 [(0, .op 0 0 0), (1, .agg [.int .i64 d.kind, .int .i64 d.at_, .int .i64 d.n, .int .u8 (d.x.toNat : Int), .ro false d.sc.length (scarsPV d.sc)])] [(0, slabS 1 s), (1, slabL s)] Try.func15 rfl rfl rfl (all_cons rfl (all_cons rfl all_nil)) (all_cons rfl (all_cons rfl all_nil)) ?_
  (repeat refine lwp_seq_k fun K hK => ?_)
  refine lw_region ?_
  refine RL.wa (oBox 1 (Nat.succ_pos 0) rfl rfl ev_a rfl rfl) ?_
  refine RL.done ?_
  refine hK _ ?_
  clear hK K
  (repeat refine lwp_seq_k fun K hK => ?_)
  refine lw_region ?_
  refine RL.qa (oFieldAddr rfl rfl ev_a (by decide) (by rfl)) ?_
  refine RL.qa (oLoad rfl rfl ev_a (by rfl) (by rfl)) ?_
  refine RL.done ?_
  refine hK _ ?_
  clear hK K
  (repeat refine lwp_seq_k fun K hK => ?_)
  refine lwp_block ?_
  by_cases h0 : d.kind = 0
  · have e : s.do_ d = (s.ink d.at_ (plain d.x)).2 := by unfold Slb.do_; rw [if_pos h0]
    rw [e]
    (repeat refine lwp_seq_k fun K hK => ?_)
    refine lw_region ?_
    refine RL.qa (oBin (v := .bool true) rfl rfl ev_a ev_a (by simp [binI, h0])) ?_
    refine RL.qa (oAssign rfl rfl ev_a) ?_
    refine RL.done ?_
    refine hK _ ?_
    clear hK K
    (repeat refine lwp_seq_k fun K hK => ?_)
    refine lw_condT (by (first | (apply ev_tmp; ((repeat (apply Lk.there; focus rfl)); exact Lk.here)) | exact ev_cint | exact ev_cbool | exact ev_cnilp | exact ev_cnils | exact ev_func | exact ev_cstr | exact ev_cnilf | exact ev_cnili)) ?_
    (repeat refine lwp_seq_k fun K hK => ?_)
    refine lw_region_any (by kernel_rfl) ?_
    refine RL.qa (oMove rfl rfl ev_a) ?_
    refine RL.qa (oFieldAddr rfl rfl ev_a (by decide) (by rfl)) ?_
    refine RL.qa (oLoad rfl rfl ev_a (by rfl) (by rfl)) ?_
    refine RL.qa (oFieldAddr rfl rfl ev_a (by decide) (by rfl)) ?_
    refine RL.qa (oLoad rfl rfl ev_a (by rfl) (by rfl)) ?_
    refine RL.qa (oCallC rfl rfl ev_a evs_a (plain_ctr d.x)) ?_
    refine RL.wsa (oSlab 0 1 rfl rfl ev_a evs_a (ink_plain s hw d.at_ d.x) rfl rfl rfl (by rfl) rfl) ?_
    refine RL.done ⟨by kernel_rfl, ?_⟩
    exact ⟨.inl rfl, end_of rfl ⟨rfl, rfl, trivial⟩ (retO0 rfl)⟩
  · (repeat refine lwp_seq_k fun K hK => ?_)
    refine lw_region ?_
    refine RL.qa (oBin (v := .bool false) rfl rfl ev_a ev_a (by simp [binI, h0])) ?_
    refine RL.qa (oAssign rfl rfl ev_a) ?_
    refine RL.done ?_
    refine hK _ ?_
    clear hK K
    (repeat refine lwp_seq_k fun K hK => ?_)
    refine lw_condF (by (first | (apply ev_tmp; ((repeat (apply Lk.there; focus rfl)); exact Lk.here)) | exact ev_cint | exact ev_cbool | exact ev_cnilp | exact ev_cnils | exact ev_func | exact ev_cstr | exact ev_cnilf | exact ev_cnili)) ?_
    by_cases h2 : d.kind = 2
    · have e : s.do_ d = s.burn.2 := by unfold Slb.do_; rw [if_neg h0, if_pos h2]
      rw [e]
      (repeat refine lwp_seq_k fun K hK => ?_)
      refine lw_region ?_
      refine RL.qa (oBin (v := .bool true) rfl rfl ev_a ev_a (by simp [binI, h2])) ?_
      refine RL.qa (oAssign rfl rfl ev_a) ?_
      refine RL.done ?_
      refine hK _ ?_
      clear hK K
      (repeat refine lwp_seq_k fun K hK => ?_)
      refine lw_condT (by (first | (apply ev_tmp; ((repeat (apply Lk.there; focus rfl)); exact Lk.here)) | exact ev_cint | exact ev_cbool | exact ev_cnilp | exact ev_cnils | exact ev_func | exact ev_cstr | exact ev_cnilf | exact ev_cnili)) ?_
      (repeat refine lwp_seq_k fun K hK => ?_)
      refine lw_region ?_
      refine RL.qa (oMove rfl rfl ev_a) ?_
      refine RL.wsa (oSlab 0 1 rfl rfl ev_a evs_a (burn_ctr s hw) rfl rfl rfl (by rfl) rfl) ?_
      refine RL.done ?_
      exact ⟨.inl rfl, end_of rfl ⟨rfl, rfl, trivial⟩ (retO0 rfl)⟩
    · (repeat refine lwp_seq_k fun K hK => ?_)
      refine lw_region ?_
      refine RL.qa (oBin (v := .bool false) rfl rfl ev_a ev_a (by simp [binI, h2])) ?_
      refine RL.qa (oAssign rfl rfl ev_a) ?_
      refine RL.done ?_
      refine hK _ ?_
      clear hK K
      (repeat refine lwp_seq_k fun K hK => ?_)
      refine lw_condF (by (first | (apply ev_tmp; ((repeat (apply Lk.there; focus rfl)); exact Lk.here)) | exact ev_cint | exact ev_cbool | exact ev_cnilp | exact ev_cnils | exact ev_func | exact ev_cstr | exact ev_cnilf | exact ev_cnili)) ?_
      by_cases h3 : d.kind = 3
      · have e : s.do_ d = s.supplied d.n := by unfold Slb.do_; rw [if_neg h0, if_neg h2, if_pos h3]
        rw [e]
        (repeat refine lwp_seq_k fun K hK => ?_)
        refine lw_region ?_
        refine RL.qa (oBin (v := .bool true) rfl rfl ev_a ev_a (by simp [binI, h3])) ?_
        refine RL.qa (oAssign rfl rfl ev_a) ?_
        refine RL.done ?_
        refine hK _ ?_
        clear hK K
        (repeat refine lwp_seq_k fun K hK => ?_)
        refine lw_condT (by (first | (apply ev_tmp; ((repeat (apply Lk.there; focus rfl)); exact Lk.here)) | exact ev_cint | exact ev_cbool | exact ev_cnilp | exact ev_cnils | exact ev_func | exact ev_cstr | exact ev_cnilf | exact ev_cnili)) ?_
        (repeat refine lwp_seq_k fun K hK => ?_)
        refine lw_region ?_
        refine RL.qa (oMove rfl rfl ev_a) ?_
        refine RL.qa (oFieldAddr rfl rfl ev_a (by decide) (by rfl)) ?_
        refine RL.qa (oLoad rfl rfl ev_a (by rfl) (by rfl)) ?_
        refine RL.wsa (oSlab 0 1 rfl rfl ev_a evs_a (supply_ctr s d.n) rfl rfl rfl (by rfl) rfl) ?_
        refine RL.done ?_
        exact ⟨.inl rfl, end_of rfl ⟨rfl, rfl, trivial⟩ (retO0 rfl)⟩
      · (repeat refine lwp_seq_k fun K hK => ?_)
        refine lw_region ?_
        refine RL.qa (oBin (v := .bool false) rfl rfl ev_a ev_a (by simp [binI, h3])) ?_
        refine RL.qa (oAssign rfl rfl ev_a) ?_
        refine RL.done ?_
        refine hK _ ?_
        clear hK K
        (repeat refine lwp_seq_k fun K hK => ?_)
        refine lw_condF (by (first | (apply ev_tmp; ((repeat (apply Lk.there; focus rfl)); exact Lk.here)) | exact ev_cint | exact ev_cbool | exact ev_cnilp | exact ev_cnils | exact ev_func | exact ev_cstr | exact ev_cnilf | exact ev_cnili)) ?_
        by_cases h4 : d.kind = 4
        · have e : s.do_ d = s.wake (table d.sc) := by unfold Slb.do_; rw [if_neg h0, if_neg h2, if_neg h3, if_pos h4]
          rw [e]
          (repeat refine lwp_seq_k fun K hK => ?_)
          refine lw_region ?_
          refine RL.qa (oBin (v := .bool true) rfl rfl ev_a ev_a (by simp [binI, h4])) ?_
          refine RL.qa (oAssign rfl rfl ev_a) ?_
          refine RL.done ?_
          refine hK _ ?_
          clear hK K
          (repeat refine lwp_seq_k fun K hK => ?_)
          refine lw_condT (by (first | (apply ev_tmp; ((repeat (apply Lk.there; focus rfl)); exact Lk.here)) | exact ev_cint | exact ev_cbool | exact ev_cnilp | exact ev_cnils | exact ev_func | exact ev_cstr | exact ev_cnilf | exact ev_cnili)) ?_
          (repeat refine lwp_seq_k fun K hK => ?_)
          refine lw_region ?_
          refine RL.qa (oMove rfl rfl ev_a) ?_
          refine RL.qa (oFieldAddr rfl rfl ev_a (by decide) (by rfl)) ?_
          refine RL.qa (oLoad rfl rfl ev_a (by rfl) (by rfl)) ?_
          refine RL.wsa (oSlab 0 1 rfl rfl ev_a evs_a (wake_ctr s hw d.sc hl) rfl rfl rfl (by rfl) rfl) ?_
          refine RL.done ?_
          exact ⟨.inl rfl, end_of rfl ⟨rfl, rfl, trivial⟩ (retO0 rfl)⟩
        · have e : s.do_ d = s := by unfold Slb.do_; rw [if_neg h0, if_neg h2, if_neg h3, if_neg h4]
          rw [e]
          (repeat refine lwp_seq_k fun K hK => ?_)
          refine lw_region ?_
          refine RL.qa (oBin (v := .bool false) rfl rfl ev_a ev_a (by simp [binI, h4])) ?_
          refine RL.qa (oAssign rfl rfl ev_a) ?_
          refine RL.done ?_
          refine hK _ ?_
          clear hK K
          (repeat refine lwp_seq_k fun K hK => ?_)
          refine lw_condF (by (first | (apply ev_tmp; ((repeat (apply Lk.there; focus rfl)); exact Lk.here)) | exact ev_cint | exact ev_cbool | exact ev_cnilp | exact ev_cnils | exact ev_func | exact ev_cstr | exact ev_cnilf | exact ev_cnili)) ?_
          refine lwp_skip ⟨.inl rfl, end_of rfl ⟨rfl, rfl, trivial⟩ (retO0 rfl)⟩
end Go.Proofs.Ythnjhhohfhnhgaa
