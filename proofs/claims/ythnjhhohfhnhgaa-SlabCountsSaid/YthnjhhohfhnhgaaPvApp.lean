/- The logic of pure values: append, copy; bytes and strings. -/
import Derived.Test.YthnjhhohfhnhgaaPvMore
namespace Go.Proofs.Ythnjhhohfhnhgaa
open Go Go.RowKit

/-- A string's bytes. -/
def strPV (q : ByteArray) : List PV := q.data.toList.map fun b => .int .u8 b.toNat
/-- What is appended: so many elements, their cells. -/
def srcOf (H : Nat → Option Blk') : PV → Option (Nat × List PV × List Nat)
  | .str q => some (q.size, strPV q, [])
  | p => elemsOf H p
def srcKind (d : TypeDesc) (es : Nat) (p : PV) : Bool :=
  match d, p with
  | .string, .str _ => es == 1
  | .slice _, .nils | .slice _, .ro .. | .slice _, .os .. => true
  | _, _ => false
theorem leafs_one {c : Cx} {ys : List PV} {us : List Value} (hl : ∀ y ∈ ys, leaf y = true) (h : RzL c ys us) : ∀ u ∈ us, u.oneCell' = true := by
  obtain ⟨h1, h2⟩ := (RzL_iff _ _).1 h
  intro u hu
  obtain ⟨q, hq, rfl⟩ := List.getElem_of_mem hu
  have hq' : q < ys.length := by rw [← h1]; exact hq
  obtain ⟨u', h6, h7⟩ := h2 q _ (List.getElem?_eq_getElem hq')
  rw [List.getElem?_eq_getElem hq] at h6
  injection h6 with h6
  rw [h6]
  exact (leaf_one (hl _ (List.getElem_mem hq')) h7).1
theorem src_rz {P : Program} {H : Nat → Option Blk'} {c : Cx} (hs : HSim c) {px : PV} {v : Value} {m es : Nat} {ys : List PV} {R : List Nat} {tx : TypeId} {d : TypeDesc} {s b : Nat} (ht : Ty P tx d s b) (h : srcOf H px = some (m, ys, R)) (hH : ∀ i ∈ R, c.H i = H i) (hv : Rz c px v)
    (hd : srcKind d es px = true) (hlen : ys.length = m * es) (hlf : ∀ y ∈ ys, leaf y = true) (hes : 0 < es) : ∃ news, Src P es tx v m news c.w ∧ RzL c ys news := by
  have slice : ∀ e, d = .slice e → elemsOf H px = some (m, ys, R) → ∃ news, Src P es tx v m news c.w ∧ RzL c ys news := by
    intro e hde he
    subst hde
    obtain ⟨A, cap, rfl, h1, h2, h3⟩ := elemsOf_reads hs he hH hv
    by_cases hy : ys = []
    · subst hy
      have hm : m = 0 := by
        rcases Nat.eq_zero_or_pos m with h | h
        · exact h
        · have := Nat.mul_pos h hes
          simp at hlen
          omega
      subst hm
      refine ⟨[], ?_, rfl⟩
      cases A with
      | none => exact Src.ofNil c.w ht.und cap
      | some a => exact Src.ofSlice c.w ht.und a 0 cap [] (by simp) (by simp) (by simp)
    · obtain ⟨a, rfl, h4, h5⟩ := h3 hy
      obtain ⟨us, h6, h7⟩ := h5.vals
      refine ⟨us, Src.ofSlice c.w ht.und a m cap us (by rw [((RzL_iff _ _).1 h6).1, hlen]) (fun j u hu => by rw [addr_add h4]; exact h7 j u hu) (leafs_one hlf h6), h6⟩
  cases d <;> simp only [srcKind, Bool.false_eq_true] at hd
  case string =>
    cases px <;> simp only [Bool.false_eq_true] at hd
    rename_i q
    have he : es = 1 := by simpa using hd
    simp only [srcOf] at h
    injection h with h; injection h with h1 h2; injection h2 with h2 h3; subst h1; subst h2
    simp only [Rz] at hv
    subst hv
    subst he
    refine ⟨byteCells q, Src.ofString c.w ht.und q, ?_⟩
    rw [RzL_iff]
    refine ⟨by simp [byteCells, strPV], fun i x hx => ?_⟩
    simp only [strPV, List.getElem?_map] at hx
    obtain ⟨b, h1, rfl⟩ := Option.map_eq_some_iff.1 hx
    exact ⟨_, by simp [byteCells, h1], rfl⟩
  case slice e =>
    refine slice e rfl ?_
    cases px <;> simp only [Bool.false_eq_true] at hd <;> exact h

section
variable {P : Program} {N : Nat} {o : Oper} {T : Nat → PV} {H : Nat → Option Blk'} {n : Nat}
theorem app_run {sx x : Operand} {ts : Array TypeId} (ho : o.op = .call { callee := .builtin .append, args := #[sx, x], argTypes := ts }) {a : Act} {w w' : World} {u : Value} (h : (Builtin.append_ ts o.type #[a.eval sx, a.eval x]).run P w = .ok u w') : (execOp a.eval o).run P w = .ok (.value u) w' := by
  simp [execOp, ho, resolve, invoke, builtin, h]
/-- append onto an own slice. -/
theorem OpOk.append {sx x : Operand} {ts : Array TypeId} (ho : o.op = .call { callee := .builtin .append, args := #[sx, x], argTypes := ts }) (hd : ∀ d, o.dst = some d → d < N) {t tx : TypeId} (hts' : ts = #[t, tx]) {e : TypeId} {s1 b1 : Nat} [h1 : Ty P t (.slice e) s1 b1] {dx : TypeDesc} {s2 b2 : Nat} [hx' : Ty P tx dx s2 b2] {d : TypeDesc} {s b : Nat} {z : Value} [h2 : Ty P e d s b] [hz : TyZ P e z]
    (hzs : z.cells.size = s) (h0 : 0 < s) {i g off k : Nat} {blk : Blk'} (hs : ev T sx = .os i g off k) (hb : H i = some blk) (hg : g = blk.gen) (hes : blk.es = s) (hin : off + k * s ≤ blk.cells.length) (hlo : blk.lo ≤ off + k * s)
    {px : PV} (hxe : ev T x = px) {m : Nat} {ys : List PV} {R : List Nat} (hx : srcOf H px = some (m, ys, R)) (hk : srcKind dx s px = true) (hlen : ys.length = m * s) (hlf : ∀ y ∈ ys, leaf y = true) (hbd : (k + m) * b ≤ 140737488355328) (h63 : k + m ≤ 9223372036854775807) :
    OpOk P N o T H n (.os i (g + 1) 0 (k + m)) (setH H i ⟨g + 1, s, blk.lo - off, (blk.cells.drop off).take (k * s) ++ ys⟩) n R [i] := by
  refine ⟨Nat.le_refl n, fun j hj => setH_ne _ _ (by simpa using hj), fun j h1 h2 => by omega, hd, fun c a T2 hsm hts hT hH hB K Q hK => ?_⟩
  subst hts'
  rw [looks_of ho] at hT
  have hsv := ev_rz hts sx
  have hxv := ev_rz hts x
  rw [ev_same hT (x := sx) (by simp [Op.operands, Call.operands]), hs] at hsv
  rw [ev_same hT (x := x) (by simp [Op.operands, Call.operands]), hxe] at hxv
  have hcb : c.H i = some blk := (hH i (.inr (by simp))).trans hb
  obtain ⟨hes0, ad, cap, es, e1, e2, e3⟩ := (hsv.2.2 blk hcb).2 hg
  obtain ⟨ti, hti, ti1, ti2, ti3⟩ := h2.parts hz
  obtain ⟨news, hsrc, hnews⟩ := src_rz (P := P) hsm hx' hx (fun j hj => hH j (.inl hj)) hxv hk hlen hlf h0
  have hnl : news.length = m * s := by rw [((RzL_iff _ _).1 hnews).1, hlen]
  obtain ⟨cs, ty, h3, h4, h5⟩ := (hsm.blk i blk hcb).row hes0
  have hms : msize c.w (c.φ i).1 = cs.size := by simp only [msize, h3]
  rw [hms, hes] at e3
  have hkl : ((blk.cells.drop off).take (k * s)).length = k * s := by simp; omega
  have hold : ∀ (j : Nat) (y : PV), ((blk.cells.drop off).take (k * s))[j]? = some y → ∃ u, cs[(c.φ i).2 + off + j]? = some u ∧ Rz c y u := by
    intro j y hy
    rw [List.getElem?_take] at hy
    split at hy
    · rw [List.getElem?_drop] at hy
      obtain ⟨u, h6, h7⟩ := h5 _ y hy
      exact ⟨u, by rw [Nat.add_assoc]; exact h6, h7⟩
    · cases hy
  have hblk : ∀ j, (c.B j ∨ j = i) ↔ (c.B j ∨ (n ≤ j ∧ j < n)) := fun j => ⟨fun h => .inl (h.elim id fun e => e ▸ hsm.born i blk hcb), fun h => h.elim .inl fun h => by omega⟩
  unfold Oper.wp
  by_cases hroom : k + m ≤ cap
  · -- there is room
    by_cases hcap : cap = 0
    · obtain rfl : m = 0 := by omega
      obtain rfl : k = 0 := by omega
      have hn0 : news = [] := List.eq_nil_of_length_eq_zero (by simpa using hnl)
      subst hn0
      have hr := run_append_nothing (P := P) c.w t tx o.type e ti h1.und hti (some ad) 0 cap (by omega) (a.eval x) (by rw [ti1]; exact hsrc)
      rw [app_run ho (by rw [es]; exact hr)]
      have hys : ys = [] := List.eq_nil_of_length_eq_zero (by simpa using hlen)
      subst hys
      obtain ⟨he, hs'⟩ := ext_turn hsm (b := ⟨g + 1, s, blk.lo - off, []⟩) h0 hcb ((Kp.refl (fun k => k = (c.φ i).1) c.w)) h3 h3 rfl (fun _ _ => rfl) (o := (c.φ i).2 + off) (by omega) (by simp only; omega) (by simp only; omega) (fun h => by simp only at h; omega) (by simp only [List.length_nil]; omega) (by simp)
      refine hK (c.lay c.w i ((c.φ i).1, (c.φ i).2 + off) ⟨g + 1, s, blk.lo - off, []⟩) _ he hs' hblk (by rw [over_setH]; simp [Cx.lay]) ⟨⟨_, _, _, rfl⟩, .inr rfl, fun blk' hb' => ?_⟩
      have : (c.lay c.w i ((c.φ i).1, (c.φ i).2 + off) ⟨g + 1, s, blk.lo - off, []⟩).H i = some ⟨g + 1, s, blk.lo - off, []⟩ := setH_same _ _ _
      rw [this] at hb'; injection hb' with hb'; subst hb'
      refine ⟨Nat.le_refl _, fun _ => ⟨h0, ad, cap, rfl, by omega, .inl hcap, ?_⟩⟩
      show (if Nat.beq i i then ((c.φ i).1, (c.φ i).2 + off) else c.φ i).2 + 0 + cap * s ≤ msize c.w (if Nat.beq i i then ((c.φ i).1, (c.φ i).2 + off) else c.φ i).1
      simp only [Nat.beq_refl, if_true, hms]
      omega
    · have ha : ad = ⟨(c.φ i).1, (c.φ i).2 + off, none⟩ := e2.resolve_left hcap
      subst ha
      have hfit : (c.φ i).2 + off + k * s + news.length ≤ cs.size := by
        have : (k + m) * s ≤ cap * s := Nat.mul_le_mul_right s hroom
        rw [Nat.add_mul] at this
        omega
      have hr := run_append_room_src (P := P) c.w t tx o.type e ti h1.und hti (c.φ i).1 ((c.φ i).2 + off) k cap (a.eval x) m news (by rw [ti1]; exact hsrc) hroom
        (fun j hj => by rw [ti1]; simp only [World.cell?, h3]; have : (c.φ i).2 + off + k * s + j < cs.size := by omega
                        simp [this]) (fun j _ => by simp [World.frozen?, h3])
      rw [ti1] at hr
      rw [app_run ho (by rw [es]; exact hr)]
      obtain ⟨arr', h6, h7, h8, h9⟩ := setCells_blk news ((c.φ i).2 + off + k * s) c.w cs h3 hfit
      have hkp : Kp (fun k => k = (c.φ i).1) c.w (c.w.setCells (c.φ i).1 ((c.φ i).2 + off + k * s) news) := kp_setCells _ _ _
      obtain ⟨he, hs'⟩ := ext_turn hsm (b := ⟨g + 1, s, blk.lo - off, (blk.cells.drop off).take (k * s) ++ ys⟩) h0 hcb hkp h3 h6 h7 (fun j hj => h8 j (.inl (by omega))) (o := (c.φ i).2 + off) (by omega) (by simp only; omega) (by simp only; omega) (fun h => by simp only at h; omega)
        (by simp only [List.length_append, hkl, h7, hlen]; omega) (fun j y hy => by
          simp only at hy
          rcases Nat.lt_or_ge j (k * s) with hj | hj
          · rw [List.getElem?_append_left (by omega)] at hy
            obtain ⟨u, h10, h11⟩ := hold j y hy
            exact ⟨u, by rw [h8 _ (.inl (by omega))]; exact h10, h11⟩
          · rw [List.getElem?_append_right (by omega), hkl] at hy
            obtain ⟨u, h10, h11⟩ := ((RzL_iff _ _).1 hnews).2 _ y hy
            refine ⟨u, ?_, h11⟩
            have := h9 _ u h10
            rwa [show (c.φ i).2 + off + k * s + (j - k * s) = (c.φ i).2 + off + j by omega] at this)
      refine hK _ _ he hs' hblk (by rw [over_setH]; rfl) ⟨⟨_, _, _, rfl⟩, .inr rfl, fun blk' hb' => ?_⟩
      have : (c.lay (c.w.setCells (c.φ i).1 ((c.φ i).2 + off + k * s) news) i ((c.φ i).1, (c.φ i).2 + off) ⟨g + 1, s, blk.lo - off, (blk.cells.drop off).take (k * s) ++ ys⟩).H i = some _ := setH_same _ _ _
      rw [this] at hb'; injection hb' with hb'; subst hb'
      refine ⟨Nat.le_refl _, fun _ => ⟨h0, _, cap, rfl, hroom, .inr ?_, ?_⟩⟩
      · simp [Cx.lay]
      · show (if Nat.beq i i then ((c.φ i).1, (c.φ i).2 + off) else c.φ i).2 + 0 + cap * s ≤ msize (c.w.setCells (c.φ i).1 ((c.φ i).2 + off + k * s) news) (if Nat.beq i i then ((c.φ i).1, (c.φ i).2 + off) else c.φ i).1
        simp only [Nat.beq_refl, if_true, msize, h6, h7]
        omega
  · -- there is none
    have hadr : ∀ us : List Value, (∀ (j : Nat) (u : Value), us[j]? = some u → cs[(c.φ i).2 + off + j]? = some u) → us.length = k * s → (Builtin.firstCells s k (.slice (some ad) k cap)).run P c.w.drew = .ok us.toArray c.w.drew := by
      intro us hus hul
      refine run_firstCells_some c.w.drew s k ad k cap us hul fun j u hu => ?_
      have hk0 : k ≠ 0 := fun h => by
        subst h
        have : us = [] := List.eq_nil_of_length_eq_zero (by simpa using hul)
        subst this
        simp at hu
      have ha : ad = ⟨(c.φ i).1, (c.φ i).2 + off, none⟩ := by
        rcases e2 with e2 | e2
        · omega
        · exact e2
      subst ha
      rw [addr_add rfl]
      show c.w.cell? _ = _
      simp only [World.cell?, h3]
      simpa using hus j u hu
    obtain ⟨us, hus1, hus2⟩ : ∃ us : List Value, RzL c ((blk.cells.drop off).take (k * s)) us ∧ ∀ (j : Nat) (u : Value), us[j]? = some u → cs[(c.φ i).2 + off + j]? = some u := by
      have hr : Reads c (c.φ i).1 ((c.φ i).2 + off) ((blk.cells.drop off).take (k * s)) := fun j y hy => by
        obtain ⟨u, h6, h7⟩ := hold j y hy
        exact ⟨u, by simp only [World.cell?, h3]; simpa using h6, h7⟩
      obtain ⟨us, h6, h7⟩ := hr.vals
      refine ⟨us, h6, fun j u hu => ?_⟩
      have := h7 j u hu
      simp only [World.cell?, h3] at this
      simpa using this
    have hul : us.length = k * s := by rw [((RzL_iff _ _).1 hus1).1, hkl]
    have hr := run_append_grow_src (P := P) c.w t tx o.type e ti z h1.und hti ti3 (some ad) k cap us (by rw [ti1]; exact hadr us hus2 hul) (a.eval x) m news (by rw [ti1]; exact hsrc) (by omega) (by omega) (growslice_fits (by omega) (by rw [ti2]; exact hbd))
    rw [app_run ho (by rw [es]; exact hr)]
    have hge := grownCap_ge c.w (k + m) cap e
    generalize hG : grownCap c.w (k + m) cap e = G at hge hr
    have hsz : ((us ++ news).toArray ++ Builtin.zeroCells z.cells (G - (k + m))).size = G * s := by
      simp only [Array.size_append, List.size_toArray, List.length_append, size_zeroCells, hzs, hul, hnl, ← Nat.add_mul]
      congr 1
      omega
    have hnew := heap_alloc_new c.w.drew (.cells ((us ++ news).toArray ++ Builtin.zeroCells z.cells (G - (k + m))) e)
    have hkp : Kp0 c.w (c.w.drew.alloc (.cells ((us ++ news).toArray ++ Builtin.zeroCells z.cells (G - (k + m))) e)) := ((Kp.refl _ _).drew).alloc _
    have hle : (k + m) * s ≤ G * s := Nat.mul_le_mul_right s hge
    rw [Nat.add_mul] at hle
    obtain ⟨he, hs'⟩ := ext_new hsm hkp (i := i) (k := c.w.heap.size) (o := 0) (b := ⟨g + 1, s, blk.lo - off, (blk.cells.drop off).take (k * s) ++ ys⟩) h0
      (fun x _ hx => by rw [hcb] at hx; injection hx with hx; subst hx; simp only; omega) (fun _ => ⟨blk, hcb⟩) (Nat.le_refl _) hnew (by simp only [List.length_append, hkl, hlen, hsz]; omega) (fun j y hy => by
        simp only at hy
        rw [Nat.zero_add]
        rcases Nat.lt_or_ge j (k * s) with hj | hj
        · rw [List.getElem?_append_left (by omega)] at hy
          obtain ⟨u, h10, h11⟩ := ((RzL_iff _ _).1 hus1).2 j y hy
          refine ⟨u, ?_, h11⟩
          rw [Array.getElem?_append_left (by simp; omega)]
          simp only [List.getElem?_toArray]
          rw [List.getElem?_append_left (by omega)]
          exact h10
        · rw [List.getElem?_append_right (by omega), hkl] at hy
          obtain ⟨u, h10, h11⟩ := ((RzL_iff _ _).1 hnews).2 _ y hy
          refine ⟨u, ?_, h11⟩
          have hjl : j - k * s < news.length := (List.getElem?_eq_some_iff.1 h10).1
          rw [Array.getElem?_append_left (by simp; omega)]
          simp only [List.getElem?_toArray]
          rw [List.getElem?_append_right (by omega), hul]
          exact h10)
    refine hK _ _ he hs' hblk (by rw [over_setH]; rfl) ⟨⟨_, _, _, rfl⟩, .inr rfl, fun blk' hb' => ?_⟩
    have : (c.lay (c.w.drew.alloc (.cells ((us ++ news).toArray ++ Builtin.zeroCells z.cells (G - (k + m))) e)) i (c.w.heap.size, 0) ⟨g + 1, s, blk.lo - off, (blk.cells.drop off).take (k * s) ++ ys⟩).H i = some _ := setH_same _ _ _
    rw [this] at hb'; injection hb' with hb'; subst hb'
    refine ⟨Nat.le_refl _, fun _ => ⟨h0, _, G, rfl, hge, .inr ?_, ?_⟩⟩
    · simp [Cx.lay]
    · show (if Nat.beq i i then (c.w.heap.size, 0) else c.φ i).2 + 0 + G * s ≤ msize (c.w.drew.alloc _) (if Nat.beq i i then (c.w.heap.size, 0) else c.φ i).1
      simp only [Nat.beq_refl, if_true]
      have hnew' := hnew
      simp only [World.drew] at hnew' ⊢
      simp only [msize, hnew', hsz]
      omega

/-- What an append begins with: nil, or a slice without room. -/
def baseOf : PV → Option (Nat × List PV)
  | .nils => some (0, [])
  | .ro true k xs => some (k, xs)
  | _ => none
/-- append onto nil, or onto a slice without room: a new block. -/
theorem OpOk.appendNew {sx x : Operand} {ts : Array TypeId} (ho : o.op = .call { callee := .builtin .append, args := #[sx, x], argTypes := ts }) (hd : ∀ d, o.dst = some d → d < N) {t tx : TypeId} (hts' : ts = #[t, tx]) {e : TypeId} {s1 b1 : Nat} [h1 : Ty P t (.slice e) s1 b1] {dx : TypeDesc} {s2 b2 : Nat} [hx' : Ty P tx dx s2 b2] {d : TypeDesc} {s b : Nat} {z : Value} [h2 : Ty P e d s b] [hz : TyZ P e z]
    (hzs : z.cells.size = s) (h0 : 0 < s) {k : Nat} {xs : List PV} (hs : baseOf (ev T sx) = some (k, xs)) (hxl : xs.length = k * s)
    {px : PV} (hxe : ev T x = px) {m : Nat} {ys : List PV} {R : List Nat} (hx : srcOf H px = some (m, ys, R)) (hk : srcKind dx s px = true) (hlen : ys.length = m * s) (hlf : ∀ y ∈ ys, leaf y = true) (hbd : (k + m) * b ≤ 140737488355328) (h63 : k + m ≤ 9223372036854775807) (hm : 0 < m) :
    OpOk P N o T H n (.os n 0 0 (k + m)) (setH H n ⟨0, s, 0, xs ++ ys⟩) (n + 1) R [n] := by
  refine opOk_new h0 hd R 0 (fun c u => ⟨fun h => ⟨u, rfl, h⟩, fun ⟨_, _, h⟩ => h⟩) fun c a T2 hsm hts hT hR => ?_
  subst hts'
  rw [looks_of ho] at hT
  have hsv := ev_rz hts sx
  have hxv := ev_rz hts x
  rw [ev_same hT (x := sx) (by simp [Op.operands, Call.operands])] at hsv
  rw [ev_same hT (x := x) (by simp [Op.operands, Call.operands]), hxe] at hxv
  obtain ⟨ti, hti, ti1, ti2, ti3⟩ := h2.parts hz
  obtain ⟨news, hsrc, hnews⟩ := src_rz (P := P) hsm hx' hx hR hxv hk hlen hlf h0
  have hnl : news.length = m * s := by rw [((RzL_iff _ _).1 hnews).1, hlen]
  -- the old cells
  have hbase : ∃ A, a.eval sx = .slice A k k ∧ ∃ us : List Value, RzL c xs us ∧ (Builtin.firstCells s k (.slice A k k)).run P c.w.drew = .ok us.toArray c.w.drew := by
    generalize ev T sx = q at *
    cases q <;> simp only [baseOf] at hs <;> try (cases hs; done)
    case nils =>
      injection hs with hs; injection hs with hs1 hs2; subst hs1; subst hs2
      exact ⟨none, hsv, [], rfl, run_firstCells_none c.w.drew s 0 0 0⟩
    case ro f k' xs' =>
      cases f <;> simp only at hs
      · cases hs
      · injection hs with hs; injection hs with hs1 hs2; subst hs1; subst hs2
        obtain ⟨A, cap, ea, e1, e2, e3, e4⟩ := hsv
        obtain rfl := e2 rfl
        by_cases hne : xs' = []
        · subst hne
          have hc0 : cap * s = 0 := hxl.symm
          refine ⟨A, ea, [], rfl, ?_⟩
          rcases Nat.mul_eq_zero.1 hc0 with hc1 | hc1
          · subst hc1
            cases A with
            | none => exact run_firstCells_none c.w.drew s 0 0 0
            | some ad => exact run_firstCells_some c.w.drew s 0 ad 0 0 [] (by simp) (by simp)
          · omega
        obtain ⟨k0, o0, rfl, e5⟩ := e4.resolve_left hne
        clear e4; have e4 := e5; clear e5
        obtain ⟨us, h6, h7⟩ := e4.reads.vals
        have hul : us.length = cap * s := by rw [((RzL_iff _ _).1 h6).1, hxl]
        refine ⟨some ⟨k0, o0, none⟩, ea, us, h6, run_firstCells_some c.w.drew s cap ⟨k0, o0, none⟩ cap cap us hul fun j u hu => ?_⟩
        rw [addr_add rfl]
        exact h7 j u hu
  obtain ⟨A, ea, us, hus, hold⟩ := hbase
  have hul : us.length = k * s := by rw [((RzL_iff _ _).1 hus).1, hxl]
  have hr := run_append_grow_src (P := P) c.w t tx o.type e ti z h1.und hti ti3 A k k us (by rw [ti1]; exact hold) (a.eval x) m news (by rw [ti1]; exact hsrc) (by omega) (by omega) (growslice_fits (by omega) (by rw [ti2]; exact hbd))
  have hge := grownCap_ge c.w (k + m) k e
  generalize hG : grownCap c.w (k + m) k e = G at hge hr
  have hsz : ((us ++ news).toArray ++ Builtin.zeroCells z.cells (G - (k + m))).size = G * s := by
    simp only [Array.size_append, List.size_toArray, List.length_append, size_zeroCells, hzs, hul, hnl, ← Nat.add_mul]
    congr 1
    omega
  have hnew := heap_alloc_new c.w.drew (.cells ((us ++ news).toArray ++ Builtin.zeroCells z.cells (G - (k + m))) e)
  have hle : (k + m) * s ≤ G * s := Nat.mul_le_mul_right s hge
  rw [Nat.add_mul] at hle
  refine ⟨_, _, c.w.heap.size, _, e, app_run ho (by rw [ea]; exact hr), ((Kp.refl _ _).drew).alloc _, Nat.le_refl _, hnew, ⟨by simp only [List.length_append, hxl, hlen, hsz]; omega, fun j y hy => ?_⟩, fun c' hw hB hH hφ => ?_⟩
  · rcases Nat.lt_or_ge j (k * s) with hj | hj
    · rw [List.getElem?_append_left (by omega)] at hy
      obtain ⟨u, h10, h11⟩ := ((RzL_iff _ _).1 hus).2 j y hy
      refine ⟨u, ?_, h11⟩
      rw [Array.getElem?_append_left (by simp; omega)]
      simp only [List.getElem?_toArray]
      rw [List.getElem?_append_left (by omega)]
      exact h10
    · rw [List.getElem?_append_right (by omega), hxl] at hy
      obtain ⟨u, h10, h11⟩ := ((RzL_iff _ _).1 hnews).2 _ y hy
      refine ⟨u, ?_, h11⟩
      have hjl : j - k * s < news.length := (List.getElem?_eq_some_iff.1 h10).1
      rw [Array.getElem?_append_left (by simp; omega)]
      simp only [List.getElem?_toArray]
      rw [List.getElem?_append_right (by omega), hul]
      exact h10
  · refine ⟨⟨_, _, _, rfl⟩, hB, fun blk hb => ?_⟩
    rw [hH] at hb; injection hb with hb; subst hb
    refine ⟨Nat.le_refl _, fun _ => ⟨h0, _, G, rfl, hge, .inr (by rw [hφ]), ?_⟩⟩
    rw [hφ, hw]
    have hnew' := hnew
    simp only [World.drew] at hnew' ⊢
    simp only [msize, hnew', hsz]
    omega
/-- Nothing is appended. -/
theorem OpOk.appendNone {sx x : Operand} {ts : Array TypeId} (ho : o.op = .call { callee := .builtin .append, args := #[sx, x], argTypes := ts }) (hd : ∀ d, o.dst = some d → d < N) {t tx : TypeId} (hts' : ts = #[t, tx]) {e : TypeId} {s1 b1 : Nat} [h1 : Ty P t (.slice e) s1 b1] {dx : TypeDesc} {s2 b2 : Nat} [hx' : Ty P tx dx s2 b2] {d : TypeDesc} {s b : Nat} {z : Value} [h2 : Ty P e d s b] [hz : TyZ P e z] (h0 : 0 < s)
    {v : PV} (hs : ev T sx = v) {q : Nat × List PV × List Nat} {R2 : List Nat} (hq : elemsOf H v = some q) (hR2 : q.2.2 = R2) {px : PV} (hxe : ev T x = px) {R : List Nat} (hx : srcOf H px = some (0, [], R)) (hk : srcKind dx s px = true) : OpOk P N o T H n v H n (R2 ++ R) [] := by
  refine OpOk.quiet (R2 ++ R) hd fun c a T2 hsm hts hT hR => ?_
  subst hts'
  rw [looks_of ho] at hT
  have hsv := ev_rz hts sx
  have hxv := ev_rz hts x
  rw [ev_same hT (x := sx) (by simp [Op.operands, Call.operands]), hs] at hsv
  rw [ev_same hT (x := x) (by simp [Op.operands, Call.operands]), hxe] at hxv
  obtain ⟨ti, hti, ti1, ti2, ti3⟩ := h2.parts hz
  obtain ⟨news, hsrc, hnews⟩ := src_rz (P := P) (es := s) hsm hx' hx (fun i hi => hR i (by simp [hi])) hxv hk (by simp) (by simp) h0
  simp only [RzL] at hnews
  subst hnews
  obtain ⟨k, xs, R'⟩ := q
  subst hR2
  obtain ⟨A, cap, ea, e1, _⟩ := elemsOf_reads hsm hq (fun i hi => hR i (by simp [hi])) hsv
  have hr := run_append_nothing (P := P) c.w t tx o.type e ti h1.und hti A k cap e1 (a.eval x) (by rw [ti1]; exact hsrc)
  refine ⟨a.eval sx, ?_, hsv⟩
  rw [app_run ho (by rw [ea]; exact hr), ea]
/-- string(b). -/
def byteOf' : PV → Option UInt8
  | .int .u8 i => some (UInt8.ofNat i.toNat)
  | _ => none
def pb (xs : List UInt8) : List PV := xs.map fun b => .int .u8 (b.toNat : Int)
theorem length_pb (xs : List UInt8) : (pb xs).length = xs.length := by simp [pb]
theorem leaf_pb (xs : List UInt8) : ∀ y ∈ pb xs, leaf y = true := by
  intro y hy
  obtain ⟨b, _, rfl⟩ := List.mem_map.1 hy
  rfl
theorem pb_bv {c : Cx} {xs : List UInt8} {us : List Value} (h : RzL c (pb xs) us) : us = bv xs := by
  obtain ⟨h1, h2⟩ := (RzL_iff _ _).1 h
  apply List.ext_getElem?
  intro i
  rcases Nat.lt_or_ge i xs.length with hi | hi
  · obtain ⟨u, h3, h4⟩ := h2 i _ (by simp only [pb, List.getElem?_map, List.getElem?_eq_getElem hi]; rfl)
    simp only [Rz] at h4
    subst h4
    rw [h3]
    simp [bv, hi]
  · rw [List.getElem?_eq_none (by rw [h1, length_pb]; exact hi), List.getElem?_eq_none (by rw [length_bv]; exact hi)]
theorem OpOk.strOf {t t' : TypeId} {x : Operand} (ho : o.op = .convert t t' x) (hd : ∀ d, o.dst = some d → d < N) {e : TypeId} {s1 b1 s2 b2 s3 b3 : Nat} [h1 : Ty P t (.slice e) s1 b1] [h2 : Ty P e (.int .u8) s2 b2] [h3 : Ty P t' .string s3 b3] {m : Nat} {xs : List UInt8} {R : List Nat} (hx : elemsOf H (ev T x) = some (m, pb xs, R)) (hl : xs.length = m) :
    OpOk P N o T H n (.str (bstr xs)) H n R [] := by
  refine OpOk.quiet R hd fun c a T2 hsm hts hT hR => ?_
  rw [looks_of ho] at hT
  have hxv := ev_rz hts x
  rw [ev_same hT (x := x) (by simp [Op.operands])] at hxv
  obtain ⟨A, cap, ea, e1, e2, e3⟩ := elemsOf_reads hsm hx hR hxv
  have hrd : RdB c.w A xs := by
    by_cases hxs : xs = []
    · subst hxs; exact .inl rfl
    · obtain ⟨ad, rfl, h4, h5⟩ := e3 (by intro h; exact hxs (by simpa [pb] using h))
      obtain ⟨us, h6, h7⟩ := h5.vals
      have := pb_bv h6
      subst this
      refine .inr ⟨ad.block, ad.off, by rw [← addr_eta h4], fun j hj => ?_⟩
      exact (h7 j _ (List.getElem?_eq_getElem hj)).trans (List.getElem?_eq_getElem hj).symm
  refine ⟨.string (bstr xs), ?_, rfl⟩
  simp [execOp, ho, ea, run_conv t t' e h1.und h2.und h3.und c.w A xs m cap hl hrd]
theorem OpOk.minmax {x y : Operand} {ts : Array TypeId} (mx : Bool) (ho : o.op = .call { callee := .builtin (if mx then .max else .min), args := #[x, y], argTypes := ts }) (hd : ∀ d, o.dst = some d → d < N) {k j : IntKind} {a b : Int} (hx : ev T x = .int k a) (hy : ev T y = .int j b) : OpOk P N o T H n (.int k (if mx then max a b else min a b)) H n [] [] := by
  refine OpOk.quiet [] hd fun c ac T2 hsm hts hT hR => ?_
  rw [looks_of ho] at hT
  have hxv := ev_rz hts x
  have hyv := ev_rz hts y
  rw [ev_same hT (x := x) (by cases mx <;> simp [Op.operands, Call.operands]), hx] at hxv
  rw [ev_same hT (x := y) (by cases mx <;> simp [Op.operands, Call.operands]), hy] at hyv
  simp only [Rz] at hxv hyv
  refine ⟨.int k (if mx then max a b else min a b), ?_, rfl⟩
  cases mx
  · simp [execOp, ho, resolve, invoke, builtin, hxv, hyv, Builtin.min_, Builtin.min2]
    omega
  · simp [execOp, ho, resolve, invoke, builtin, hxv, hyv, Builtin.max_, Builtin.max2]
    omega
theorem OpOk.makeFunc {f : Fn} {as bs : Array Operand} (ho : o.op = .makeFunc f as bs) (hd : ∀ d, o.dst = some d → d < N) {xs ys : List PV} (hx : as.toList.map (ev T) = xs) (hy : bs.toList.map (ev T) = ys) : OpOk P N o T H n (.fn f xs ys) H n [] [] := by
  refine OpOk.quiet [] hd fun c ac T2 hsm hts hT hR => ?_
  rw [looks_of ho] at hT
  have h1 : as.toList.map (ev T2) = xs := by rw [← hx]; exact List.map_congr_left fun x hx => ev_same hT (by simp [Op.operands, hx])
  have h2 : bs.toList.map (ev T2) = ys := by rw [← hy]; exact List.map_congr_left fun x hx => ev_same hT (by simp [Op.operands, hx])
  refine ⟨.func f (as.map ac.eval) (bs.map ac.eval), by simp [execOp, ho, Instr.makeFunc], _, _, rfl, ?_, ?_⟩
  · rw [← h1, Array.toList_map]; exact RzL_map hts _
  · rw [← h2, Array.toList_map]; exact RzL_map hts _
end
end Go.Proofs.Ythnjhhohfhnhgaa
