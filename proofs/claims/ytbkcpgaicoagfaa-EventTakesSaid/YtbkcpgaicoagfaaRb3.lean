/- The answer's Book: told. -/
import Derived.Test.YtbkcpgaicoagfaaRb2
set_option linter.unusedVariables false
set_option linter.unusedSimpArgs false
namespace Go.Proofs.Ytbkcpgaicoagfaa
open Go.RowKit

theorem OwnV.stored {e : TypeId} {sz : Nat} {w : World} {base : Nat} {g n c : Nat} {vs : List Value} (h : OwnV e sz w base (.slice (some ⟨g, 0, none⟩) n c) n vs) (i : Nat) (u : Value) : OwnV e sz (w.setCell ⟨g, i, none⟩ u) base (.slice (some ⟨g, 0, none⟩) n c) n (vs.set i u) :=
  ⟨(h.own.stored i u).1⟩
/-- The lists' blocks are of a kind. -/
def LB (M : Nat → Prop) (rows : List Lnr) : Prop := ∀ r ∈ rows, 0 < r.2.2.2.1 → ∀ ad, r.2.2.1 = some ad → M ad.block
theorem LB.nil (M : Nat → Prop) : LB M [] := fun r h => by cases h
theorem LB.imp {M M' : Nat → Prop} {rows : List Lnr} (h : LB M rows) (hM : ∀ b, M b → M' b) : LB M' rows := fun r hr h0 ad e => hM _ (h r hr h0 ad e)
theorem LB.set {M : Nat → Prop} {rows : List Lnr} (h : LB M rows) {A : Option Addr} {n c : Nat} {se : Int} {an : Bool} (hA : 0 < n → ∀ ad, A = some ad → M ad.block) (i : Nat) : LB M (rows.set i (se, an, A, n, c)) := fun r hr => by
  rcases List.mem_or_eq_of_mem_set hr with hr | rfl
  · exact h r hr
  · exact hA
theorem LB.push {M : Nat → Prop} {rows : List Lnr} (h : LB M rows) {A : Option Addr} {n c : Nat} {se : Int} {an : Bool} (hA : 0 < n → ∀ ad, A = some ad → M ad.block) : LB M (rows ++ [(se, an, A, n, c)]) := fun r hr => by
  rcases List.mem_append.1 hr with hr | hr
  · exact h r hr
  · rw [List.mem_singleton] at hr; subst hr; exact hA
/-- Behind told: the answer's Book, and what it may have touched. -/
structure RToldQ (w : World) (p tp : Nat) (lv LV : Value) (rows : List Lnr) (k : Nat) (s : PB) (A : Option Addr) (n : Nat) (w' : World) : Prop where
  book : ∃ LV' rows', RBI w' p tp lv LV' rows' (k + 1) s ∧ (∀ b, LV'.ownBlock = some b → LV.ownBlock = some b ∨ w.heap.size ≤ b) ∧ ∀ M : Nat → Prop, (0 < n → ∀ ad, A = some ad → M ad.block) → LB M rows → LB M rows'
  chg : Chg (fun b => b = p ∨ LV.ownBlock = some b) w w'
theorem ln_info : (Try.prog.info? 138).map (fun i => (i.zero, i.size, i.bytes)) = some (some (.agg #[.int .i64 0, .bool false, .slice none 0 0]), 3, 40) := by kernel_rfl
theorem lnc_new (w : World) (r : Lnr) (T : TypeId) : RdV 3 (w.alloc (.cells #[.int .i64 r.1, .bool r.2.1, .slice r.2.2.1 r.2.2.2.1 r.2.2.2.2] T)) (some ⟨w.heap.size, 0, none⟩) 1 (lncs [r]) := by
  have hb := heap_alloc_new w (.cells #[.int .i64 r.1, .bool r.2.1, .slice r.2.2.1 r.2.2.2.1 r.2.2.2.2] T)
  refine ⟨rfl, fun _ => ⟨_, 0, rfl, fun j u hj => ?_⟩⟩
  have e : lncs [r] = (#[.int .i64 r.1, .bool r.2.1, .slice r.2.2.1 r.2.2.2.1 r.2.2.2.2] : Array Value).toList := by simp [lncs, lnc]
  rw [e] at hj
  rw [Nat.zero_add]
  simp only [World.cell?, hb]
  simpa using hj
/-! ### The last region: an append, then the store -/
def GL (LV : Value) (u u' : World) : Prop := Chg (fun k => LV.ownBlock = some k) u u'
def GPL (p : Nat) (u u' : World) : Prop := Chg (fun k => k = p) u u'
def pxLn (LV : Value) (p n0 : Nat) (r : Lnr) : Px (GL LV) (GPL p) where
  p := fun v u => ∃ gb, v = .slice (some ⟨gb, 0, none⟩) 1 1 ∧ n0 ≤ gb ∧ RdV 3 u (some ⟨gb, 0, none⟩) 1 (lncs [r])
  s1 := false
  s2 := false
  m0 := fun v u u' ⟨gb, h1, h2, h3⟩ hg => ⟨gb, h1, h2, h3.keep hg⟩
  m1 := fun h => by cases h
  m2 := fun h => by cases h
def pxLo (LV : Value) (p n0 : Nat) (rows : List Lnr) : Px (GL LV) (GPL p) where
  p := fun v u => OwnV 138 3 u 0 v rows.length (lncs rows) ∧ ∀ b, v.ownBlock = some b → LV.ownBlock = some b ∨ n0 ≤ b
  s1 := false
  s2 := false
  m0 := fun v u u' h hg => ⟨h.1.keep hg, h.2⟩
  m1 := fun h => by cases h
  m2 := fun h => by cases h
def pxLq (LV : Value) (p n0 tp : Nat) (lv : Value) (rows : List Lnr) (k : Nat) (s : PB) : Px (GL LV) (GPL p) where
  p := fun _ u => ∃ LV', RBI u p tp lv LV' rows k s ∧ ∀ b, LV'.ownBlock = some b → LV.ownBlock = some b ∨ n0 ≤ b
  s1 := false
  s2 := false
  m0 := fun v u u' ⟨L, h, h2⟩ hg => ⟨L, h.keep hg, h2⟩
  m1 := fun h => by cases h
  m2 := fun h => by cases h
theorem tzL {wz : World} {LV : Value} {p xb n0 : Nat} {rows : List Lnr} {o o2 : Obj} (h1 : LV.ownBlock ≠ some p) (h2 : LV.ownBlock ≠ some xb) :
    TwoZ (GL LV) (GPL p) (fun u => OwnV 138 3 u 0 LV rows.length (lncs rows)) (fun u => u.heap[p]? = some o ∧ u.heap[xb]? = some o2) (fun u => Chg (fun k => k = p ∨ LV.ownBlock = some k) wz u) :=
  ⟨fun _ _ h hg => h.tr (Chg.of hg), fun _ _ h hg => h.tr (hg.mono fun k hk => .inl (.inr hk)), fun _ _ h hg => h.tr (hg.mono fun k hk => .inl (.inl hk)), fun _ _ h hg => h.keep hg, fun _ _ h hg => ⟨heap_keep hg h.1, heap_keep hg h.2⟩, fun _ _ h hg => ⟨hg.by_ h.1 h1, hg.by_ h.2 h2⟩⟩
/-- A block with other cells than the Book's may not be the Book's. -/
theorem RBI.other {w : World} {p tp : Nat} {lv LV : Value} {rows : List Lnr} {k : Nat} {s : PB} (h : RBI w p tp lv LV rows k s) {b : Nat} {cs : Array Value} {T : TypeId} {fr : Nat × Nat} (hb : w.heap[b]? = some (.cells cs T fr)) (h1 : T ≠ 50) (h2 : T ≠ 9) (h3 : T ≠ 87) (h4 : T ≠ 138) : ¬ ftR p tp lv LV b := by
  rintro (e | e | e)
  · rw [e, h.cells] at hb
    simp only [Option.some.injEq, Obj.cells.injEq] at hb
    exact h3 hb.2.1.symm
  · exact ftr_other h.tab hb h1 h2 e
  · obtain ⟨cur, hm⟩ := h.own.block e
    rw [hm] at hb
    simp only [Option.some.injEq, Obj.cells.injEq] at hb
    exact h4 hb.2.1.symm
/-- The Book with its lines changed. -/
theorem RBI.lines2 {w w' : World} {p tp : Nat} {lv LV LV' : Value} {rows rows' : List Lnr} {k : Nat} {s : PB} {L' : Int → Bool → List Hdr} (h : RBI w p tp lv LV rows k s) (hk : k < 1000) (hg : Chg (fun b => b = p ∨ LV.ownBlock = some b) w w') (hc : w'.heap[p]? = some (.cells #[.pointer (some ⟨tp, 0, none⟩), .int .i64 s.ti, LV'] 87)) (ho : OwnV 138 3 w' 0 LV' rows'.length (lncs rows')) (hf : ∀ b, LV'.ownBlock = some b → LV.ownBlock = some b ∨ w.heap.size ≤ b) (hl : LinesI w (ftR p tp lv LV) rows' L') (hn : rows'.length ≤ k + 1) : RBI w' p tp lv LV' rows' (k + 1) ⟨s.ts, s.ti, L'⟩ := by
  obtain ⟨h1, h2, h3⟩ := h.apart
  have hT := h.tab.chg hg (fun b hb hh => by
    rcases hh with e | e
    · exact h2 (e ▸ hb)
    · exact h3 b e hb)
  have hl1 : LinesI w (ftR p tp lv LV') rows' L' := hl.mono (fun b hb => by
    rcases hb with hb | hb | hb
    · exact .inl (.inl hb)
    · exact .inl (.inr (.inl hb))
    · exact (hf b hb).imp (fun h => .inr (.inr h)) (fun h => h))
  have hl2 := hl.chg hg (fun b hb => by
    rcases hb with hb | hb
    · exact .inl hb
    · exact .inr (.inr hb))
  refine ⟨hc, hT, ho, ⟨hl2.at_, fun r hr => ⟨(hl1.ap r hr).1, fun h0 ad e => ⟨((hl1.ap r hr).2 h0 ad e).1, ((hl2.ap r hr).2 h0 ad e).2⟩⟩, hl.no⟩, hn, h.t0, h.t1, Nat.le_trans h.few (by omega), by omega⟩
/-- Behind the last store. -/
theorem rlast {wr u : World} {p tp : Nat} {lv LV v : Value} {rows : List Lnr} {k n0 : Nat} {s : PB} {ti se : Int} {b3 : Bool} {A : Option Addr} {n c : Nat} {hs : List Hdr} (hB : RBI wr p tp lv LV rows k ⟨s.ts, ti, s.L⟩) (hr : RdH wr A n hs) (hn : n ≤ 25 ∧ n ≤ c ∧ c ≤ 9223372036854775807) (hA : 0 < n → ∀ ad, A = some ad → ¬ ftR p tp lv LV ad.block ∧ ad.block < wr.heap.size) (hnk : ∀ r ∈ rows, ¬ keyL r se b3) (hk : k < 1000) (hn0 : wr.heap.size ≤ n0) (hu : Chg (fun b => b = p ∨ LV.ownBlock = some b) wr u)
    (hc : u.heap[p]? = some (.cells #[.pointer (some ⟨tp, 0, none⟩), .int .i64 ti, LV] 87)) (ho : OwnV 138 3 u 0 v (rows ++ [(se, b3, A, n, c)]).length (lncs (rows ++ [(se, b3, A, n, c)]))) (hf : ∀ b, v.ownBlock = some b → LV.ownBlock = some b ∨ n0 ≤ b) :
    RBI (u.setCell ⟨p, 2, none⟩ v) p tp lv v (rows ++ [(se, b3, A, n, c)]) (k + 1) ⟨s.ts, ti, setL s.L se b3 hs⟩ := by
  have hch := setC_chg u p 2 v
  have hplt := hB.lt (.inl rfl)
  have hvp : ∀ b, v.ownBlock = some b → ¬ (b = p) := fun b hb e => by
    rcases hf b hb with h | h
    · exact hB.apart.1 (e ▸ h)
    · omega
  have hm := hB.many
  exact hB.lines2 hk (hu.tr (hch.mono (fun b h => .inl (.inl h)))) (by have := setCell_heap_same hc (i := 2) v; simpa using this) (ho.chg hch hvp) (fun b hb => (hf b hb).imp (fun h => h) (fun h => by omega)) (hB.lines.push hnk hr hn hA) (by simp; omega)
set_option maxRecDepth 100000 in
set_option maxHeartbeats 3200000 in
theorem rtold_any (p tp : Nat) (lv LV : Value) (rows : List Lnr) (k : Nat) (s : PB) (x : Ev) (A : Option Addr) (n c : Nat) (w : World) (hB : RBI w p tp lv LV rows k s) (hr : RdH w A n x.hs) (hn : n ≤ 25 ∧ n ≤ c ∧ c ≤ 9223372036854775807) (hki : 1 ≤ x.ki) (ht0 : 0 ≤ x.ti) (ht1 : x.ti ≤ 1099511627776) (hAf : 0 < n → ∀ ad, A = some ad → ¬ ftR p tp lv LV ad.block) (hk : k < 1000) :
    Calls Try.prog 50 #[.pointer (some ⟨p, 0, none⟩), evV x A n c] w fun e w' => e = .returned (.tuple #[]) ∧ RToldQ w p tp lv LV rows k (toldB s s.ts x) A n w' := by
  obtain ⟨ki, se, ti, me, ur, hs, bo, st, co, cr, no, nn⟩ := x
  dsimp only at hr hki ht0 ht1
  obtain ⟨ap1, ap2, ap3⟩ := hB.apart
  have hplt := hB.lt (.inl rfl)
  have hLVlt : ∀ b, LV.ownBlock = some b → b < w.heap.size := fun b hb => hB.lt (.inr (.inr hb))
  have hAl : 0 < n → ∀ ad, A = some ad → ad.block < w.heap.size := fun h0 ad e => by
    obtain ⟨b, o, hA, hcl⟩ := hr.cells (by omega)
    rw [hA] at e; cases e
    have hle : 0 < (hcs hs).length := by rw [hcs_len, hr.lenH]; omega
    exact lt_of_cell (p := ⟨b, o + 0, none⟩) (hcl 0 _ (List.getElem?_eq_getElem hle))
  have HAL := Lib.hid hAl
  have HAF := Lib.hid hAf
  have HB := Lib.hid hB
  have HR := Lib.hid hr
  have HLT := Lib.hid hLVlt
  clear hAl hLVlt
  go_enter Try.func50, Try.ntmps50
  go_upto_region 1 with fail
  have hq0 := heap_alloc_new w (.cells #[.int .i64 ki, .int .i64 se, .int .i64 ti, .string me, .string ur, .slice A n c, .string bo, .int .i64 st, .int .i64 co, .bool cr, .string no, .int .u64 nn] 34)
  have hgW : Grew w (w.alloc (.cells #[.int .i64 ki, .int .i64 se, .int .i64 ti, .string me, .string ur, .slice A n c, .string bo, .int .i64 st, .int .i64 co, .bool cr, .string no, .int .u64 nn] 34)) := (Grew.rf w).al _
  generalize w.alloc (.cells #[.int .i64 ki, .int .i64 se, .int .i64 ti, .string me, .string ur, .slice A n c, .string bo, .int .i64 st, .int .i64 co, .bool cr, .string no, .int .u64 nn] 34) = W at *
  obtain ⟨hb, hhb⟩ : ∃ hb, w.heap.size = hb := ⟨_, rfl⟩
  rw [hhb] at hq0 hplt ⊢
  have HHB := Lib.hid hhb
  have hB1 := HB.out.keep hgW
  have c2 : W.cell? ⟨hb, 2, none⟩ = some (.int .i64 ti) := cell_of_heap hq0 rfl
  have k1 : W.cell? ⟨p, 1, none⟩ = some (.int .i64 s.ti) := cell_of_heap hB1.cells rfl
  have f1 : W.frozen? ⟨p, 1, none⟩ = false := frozen_of_heap hB1.cells
  have hne : hb ≠ p := by omega
  have hx0 := (setCell_heap_other W ⟨p, 1, none⟩ (.int .i64 ti) hne).trans hq0
  have hb0 : (W.setCell ⟨p, 1, none⟩ (.int .i64 ti)).heap[p]? = some (.cells #[.pointer (some ⟨tp, 0, none⟩), .int .i64 ti, LV] 87) := by have := setCell_heap_same hB1.cells (i := 1) (.int .i64 ti); simpa using this
  have hch := setC_chg W p 1 (.int .i64 ti)
  have hr2 : RdH (W.setCell ⟨p, 1, none⟩ (.int .i64 ti)) A n hs := (HR.out.keep hgW).chg hch (fun h0 ad e e2 => HAF.out h0 ad e (.inl e2))
  have hB2 : RBI (W.setCell ⟨p, 1, none⟩ (.int .i64 ti)) p tp lv LV rows k ⟨s.ts, ti, s.L⟩ := ⟨hb0, hB1.tab.chg hch (fun b hb e => ap2 (e ▸ hb)), hB1.own.chg hch (fun b hb e => ap1 (e ▸ hb)), hB1.lines.chg hch (fun b e => .inl e), HB.out.many, ht0, ht1, HB.out.few, HB.out.kk⟩
  have hC2 : Chg (fun b => b = p ∨ LV.ownBlock = some b) w (W.setCell ⟨p, 1, none⟩ (.int .i64 ti)) := (Chg.of hgW).tr (hch.mono (fun b e => .inl (.inl e)))
  have HX0 := Lib.hid hx0
  have HB2 := Lib.hid hB2
  have HC2 := Lib.hid hC2
  have HR2 := Lib.hid hr2
  clear hq0 hgW hB1 hx0 hb0 hch hr2 hB2 hC2 ht0 ht1 hr hB hAf
  go_upto_region 2 with fail
  generalize W.setCell ⟨p, 1, none⟩ (.int .i64 ti) = W2 at *
  clear c2 k1 f1
  have c0 : W2.cell? ⟨hb, 0, none⟩ = some (.int .i64 ki) := cell_of_heap HX0.out rfl
  by_cases hkL : isL ki = true
  case neg =>
    have hk0 : isL ki = false := by simpa using hkL
    have h3 : ki ≠ 1 ∧ ki ≠ 2 ∧ ki ≠ 3 := by simpa [isL] using hk0
    have h4 : 3 < ki := by omega
    clear hkL h3
    go_wp2_with fail
    refine bodyPost_ret (results_none rfl _ _ _) rfl ⟨rfl, ⟨LV, rows, ?_, fun b hb => .inl hb, fun _ _ h => h⟩, HC2.out⟩
    have ht : toldB s s.ts ⟨ki, se, ti, me, ur, hs, bo, st, co, cr, no, nn⟩ = ⟨s.ts, ti, s.L⟩ := by simp [toldB, hk0]
    rw [ht]
    exact HB2.out.mono (by omega) (by omega)
  case pos =>
  have h123 : ki = 1 ∨ ki = 2 ∨ ki = 3 := by simpa [isL] using hkL
  obtain ⟨b3, hb3⟩ : ∃ b3, decide (ki = 3) = b3 := ⟨_, rfl⟩
  have htb : toldB s s.ts ⟨ki, se, ti, me, ur, hs, bo, st, co, cr, no, nn⟩ = ⟨s.ts, ti, setL s.L se b3 hs⟩ := by simp [toldB, hkL, hb3]
  have hkb : (ki == 3) = b3 := by rw [← hb3]; rfl
  have hk3 : ki ≤ 3 := by omega
  have HTB := Lib.hid htb
  have c1 : W2.cell? ⟨hb, 1, none⟩ = some (.int .i64 se) := cell_of_heap HX0.out rfl
  have c5 : W2.cell? ⟨hb, 5, none⟩ = some (.slice A n c) := cell_of_heap HX0.out rfl
  obtain ⟨xc, hxc⟩ : ∃ xc : Array Value, #[.int .i64 ki, .int .i64 se, .int .i64 ti, .string me, .string ur, .slice A n c, .string bo, .int .i64 st, .int .i64 co, .bool cr, .string no, .int .u64 nn] = xc := ⟨_, rfl⟩
  have hx0 := HX0.out
  rw [hxc] at hx0
  have HX := Lib.hid hx0
  clear htb hb3 hx0 hkL HX0 h123 hxc
  have hmany := HB.out.many
  obtain ⟨AL, cL, rfl, hnc, hcc, hrl⟩ := HB2.out.own.rd
  have hc2 : W2.cell? ⟨p, 2, none⟩ = some (.slice AL rows.length cL) := cell_of_heap HB2.out.cells rfl
  have HRL := Lib.hid hrl
  clear hrl
  go_upto_region 3 with fail
  go_wp2_with fail
  go_loopw [4] (fun i wr => ∃ j : Nat, i = .int .i64 (j : Int) ∧ j ≤ rows.length ∧ RowKit.Hid (∀ (m : Nat) (q : Lnr), m < j → rows[m]? = some q → ¬ keyL q se b3) ∧ RowKit.Hid (Grew W2 wr)) (fun i _ => rows.length - (intOf i).toNat)
  case atStart => exact ⟨0, rfl, by omega, Lib.hid (fun m q hm => by omega), Lib.hid (Grew.rf W2)⟩
  case round =>
    obtain ⟨j, rfl, hj, HK, HG⟩ := hrel
    have e0 := HG.out.ce c0
    have e1 := HG.out.ce c1
    have e5 := HG.out.ce c5
    have e2 := HG.out.ce hc2
    clear c0 c1 c5 hc2
    by_cases hlt : j < rows.length
    · obtain ⟨b, o, hA, hcl⟩ := HRL.out.cells (by omega)
      obtain ⟨⟨s1, a1, Ar, nr, cr'⟩, hr⟩ : ∃ r, rows[j]? = some r := ⟨_, List.getElem?_eq_getElem hlt⟩
      obtain ⟨g0, g1, g2⟩ := lncs_get rows j _ hr
      have d0 := HG.out.ce (hcl _ _ g0)
      have d1 := HG.out.ce (hcl _ _ g1)
      rw [← Nat.add_assoc] at d1
      dsimp only at d0 d1
      have HRJ := Lib.hid hr
      subst hA
      clear hcl hr g0 g1 g2
      go_upto_region 6 with fail
      go_cut [46] from 22 to 46 (fun f wx => f = .bool ((s1 == se) && (a1 == b3)) ∧ Grew wr wx)
      case first =>
        by_cases hs1 : (s1 == se) = true
        · skip
          refine region_grew [[], [(0, 22)], [(1, 23)], [(2, 24)], [], [(3, 25), (4, 26)], [(5, 27)], [(6, 28)], [], [(8, 30)], [(7, 29), (9, 31)], [(10, 32)], [(11, 33)], [(11, 33), (12, 34)], [(11, 33), (13, 35)], [(11, 33), (14, 36)], [(11, 33)], [(11, 33), (15, 37), (16, 38)], [(11, 33), (17, 39)], [(11, 33), (18, 40)], [(11, 33)], [(11, 33), (20, 42)], [(11, 33), (21, 43)], [(11, 33), (19, 41), (22, 44)], [(11, 33), (23, 45)]] [(0, 22), (1, 23), (2, 24), (3, 25), (4, 26), (5, 27), (6, 28), (7, 29), (8, 30), (9, 31), (10, 32), (11, 33), (12, 34), (13, 35), (14, 36), (15, 37), (16, 38), (17, 39), (18, 40), (19, 41), (20, 42), (21, 43), (22, 44), (23, 45), (24, 46)] (fun
            | 0 => .eqv (.pointer (some ⟨p, 0, none⟩)) | 1 => .eqv (.pointer (some ⟨p, 0, none⟩)) | 2 => .eqv (.pointer (some ⟨p, 2, none⟩)) | 3 => .eqv (.slice (some ⟨b, o, none⟩) rows.length cL) | 4 => .eqv (.int .i64 (j : Int)) | 5 => .eqv (.pointer (some ⟨b, o + j * 3, none⟩)) | 6 => .eqv (.pointer (some ⟨b, o + j * 3, none⟩)) | 7 => .eqv (.int .i64 s1) | 8 => .eqv (.pointer (some ⟨hb, 1, none⟩)) | 9 => .eqv (.int .i64 se) | 10 => .eqv (.bool true) | 11 => .eqv (.bool true) | 12 => .eqv (.pointer (some ⟨p, 0, none⟩)) | 13 => .eqv (.pointer (some ⟨p, 0, none⟩)) | 14 => .eqv (.pointer (some ⟨p, 2, none⟩)) | 15 => .eqv (.slice (some ⟨b, o, none⟩) rows.length cL) | 16 => .eqv (.int .i64 (j : Int)) | 17 => .eqv (.pointer (some ⟨b, o + j * 3, none⟩)) | 18 => .eqv (.pointer (some ⟨b, o + j * 3 + 1, none⟩)) | 19 => .eqv (.bool a1) | 20 => .eqv (.pointer (some ⟨hb, 0, none⟩)) | 21 => .eqv (.int .i64 ki) | 22 => .eqv (.bool b3) | 23 => .eqv (.bool (a1 == b3)) | 24 => .eqv (.bool (a1 == b3)) | _ => .any) (by kernel_rfl) ?_ ?_
          · refine ⟨fun u hu => ?_, fun u hu => ?_, fun u hu => ?_, fun u hu => ?_, fun u hu => ?_, fun u hu => ?_, fun u hu => ?_, fun u hu => ?_, fun u hu => ?_, fun u hu => ?_, fun u hu => ?_, fun u hu => ?_, fun u hu => ?_, fun u hu => ?_, fun u hu => ?_, fun u hu => ?_, fun u hu => ?_, fun u hu => ?_, fun u hu => ?_, fun u hu => ?_, fun u hu => ?_, fun u hu => ?_, fun u hu => ?_, fun u hu => ?_, fun u hu => ?_, trivial⟩
            · refine StepGoal.nil ?_
              go_wp2
              exact ⟨rfl, rfl, Grew.rf _, rfl⟩
            · rintro _ rfl
              refine StepGoal.nil ?_
              simp only [Act.put, List.setIfInBounds_toArray, List.set_cons_zero, List.set_cons_succ]
              go_wp2
              exact ⟨rfl, rfl, Grew.rf _, rfl⟩
            · rintro _ rfl
              refine StepGoal.nil ?_
              simp only [Act.put, List.setIfInBounds_toArray, List.set_cons_zero, List.set_cons_succ]
              go_wp2
              exact ⟨rfl, rfl, Grew.rf _, rfl⟩
            · rintro _ rfl
              have hce := hu.ce e2
              refine StepGoal.nil ?_
              simp only [Act.put, List.setIfInBounds_toArray, List.set_cons_zero, List.set_cons_succ]
              go_wp2
              exact ⟨rfl, rfl, Grew.rf _, rfl⟩
            · refine StepGoal.nil ?_
              go_wp2
              exact ⟨rfl, rfl, Grew.rf _, rfl⟩
            · rintro _ rfl _ rfl
              refine StepGoal.nil ?_
              simp only [Act.put, List.setIfInBounds_toArray, List.set_cons_zero, List.set_cons_succ]
              go_wp2
              exact ⟨rfl, rfl, Grew.rf _, rfl⟩
            · rintro _ rfl
              refine StepGoal.nil ?_
              simp only [Act.put, List.setIfInBounds_toArray, List.set_cons_zero, List.set_cons_succ]
              go_wp2
              exact ⟨rfl, rfl, Grew.rf _, rfl⟩
            · rintro _ rfl
              have hce := hu.ce d0
              refine StepGoal.nil ?_
              simp only [Act.put, List.setIfInBounds_toArray, List.set_cons_zero, List.set_cons_succ]
              go_wp2
              exact ⟨rfl, rfl, Grew.rf _, rfl⟩
            · refine StepGoal.nil ?_
              go_wp2
              exact ⟨rfl, rfl, Grew.rf _, rfl⟩
            · rintro _ rfl
              have hce := hu.ce e1
              refine StepGoal.nil ?_
              simp only [Act.put, List.setIfInBounds_toArray, List.set_cons_zero, List.set_cons_succ]
              go_wp2
              exact ⟨rfl, rfl, Grew.rf _, rfl⟩
            · rintro _ rfl _ rfl
              refine StepGoal.nil ?_
              simp only [Act.put, List.setIfInBounds_toArray, List.set_cons_zero, List.set_cons_succ]
              go_wp2
              exact ⟨rfl, rfl, Grew.rf _, rfl⟩
            · rintro _ rfl
              refine StepGoal.nil ?_
              simp only [Act.put, List.setIfInBounds_toArray, List.set_cons_zero, List.set_cons_succ]
              go_wp2
              exact ⟨rfl, rfl, Grew.rf _, rfl⟩
            · rintro _ rfl
              refine StepGoal.nil ?_
              simp only [Act.put, List.setIfInBounds_toArray, List.set_cons_zero, List.set_cons_succ]
              go_wp2
              exact ⟨rfl, rfl, Grew.rf _, rfl⟩
            · rintro _ rfl _ rfl
              refine StepGoal.nil ?_
              simp only [Act.put, List.setIfInBounds_toArray, List.set_cons_zero, List.set_cons_succ]
              go_wp2
              exact ⟨rfl, rfl, Grew.rf _, rfl⟩
            · rintro _ rfl _ rfl
              refine StepGoal.nil ?_
              simp only [Act.put, List.setIfInBounds_toArray, List.set_cons_zero, List.set_cons_succ]
              go_wp2
              exact ⟨rfl, rfl, Grew.rf _, rfl⟩
            · rintro _ rfl _ rfl
              have hce := hu.ce e2
              refine StepGoal.nil ?_
              simp only [Act.put, List.setIfInBounds_toArray, List.set_cons_zero, List.set_cons_succ]
              go_wp2
              exact ⟨rfl, rfl, Grew.rf _, rfl⟩
            · rintro _ rfl
              refine StepGoal.nil ?_
              simp only [Act.put, List.setIfInBounds_toArray, List.set_cons_zero, List.set_cons_succ]
              go_wp2
              exact ⟨rfl, rfl, Grew.rf _, rfl⟩
            · rintro _ rfl _ rfl _ rfl
              refine StepGoal.nil ?_
              simp only [Act.put, List.setIfInBounds_toArray, List.set_cons_zero, List.set_cons_succ]
              go_wp2
              exact ⟨rfl, rfl, Grew.rf _, rfl⟩
            · rintro _ rfl _ rfl
              refine StepGoal.nil ?_
              simp only [Act.put, List.setIfInBounds_toArray, List.set_cons_zero, List.set_cons_succ]
              go_wp2
              exact ⟨rfl, rfl, Grew.rf _, rfl⟩
            · rintro _ rfl _ rfl
              have hce := hu.ce d1
              refine StepGoal.nil ?_
              simp only [Act.put, List.setIfInBounds_toArray, List.set_cons_zero, List.set_cons_succ]
              go_wp2
              exact ⟨rfl, rfl, Grew.rf _, rfl⟩
            · rintro _ rfl
              refine StepGoal.nil ?_
              simp only [Act.put, List.setIfInBounds_toArray, List.set_cons_zero, List.set_cons_succ]
              go_wp2
              exact ⟨rfl, rfl, Grew.rf _, rfl⟩
            · rintro _ rfl _ rfl
              have hce := hu.ce e0
              refine StepGoal.nil ?_
              simp only [Act.put, List.setIfInBounds_toArray, List.set_cons_zero, List.set_cons_succ]
              go_wp2
              exact ⟨rfl, rfl, Grew.rf _, rfl⟩
            · rintro _ rfl _ rfl
              refine StepGoal.nil ?_
              simp only [Act.put, List.setIfInBounds_toArray, List.set_cons_zero, List.set_cons_succ]
              go_wp2
              exact ⟨rfl, rfl, Grew.rf _, rfl⟩
            · rintro _ rfl _ rfl _ rfl
              refine StepGoal.nil ?_
              simp only [Act.put, List.setIfInBounds_toArray, List.set_cons_zero, List.set_cons_succ]
              go_wp2
              exact ⟨rfl, rfl, Grew.rf _, rfl⟩
            · rintro _ rfl _ rfl
              refine StepGoal.nil ?_
              simp only [Act.put, List.setIfInBounds_toArray, List.set_cons_zero, List.set_cons_succ]
              go_wp2
              exact ⟨rfl, rfl, Grew.rf _, rfl⟩
          · intro u hu
            rintro _ rfl _ rfl _ rfl _ rfl _ rfl _ rfl _ rfl _ rfl _ rfl _ rfl _ rfl _ rfl _ rfl _ rfl _ rfl _ rfl _ rfl _ rfl _ rfl _ rfl _ rfl _ rfl _ rfl _ rfl _ rfl
            refine StepGoal.nil ?_
            simp only [Act.put, List.setIfInBounds_toArray, List.set_cons_zero, List.set_cons_succ]
            go_wp2_with fail
            go_meet
            exact ⟨by simp [hs1], hu⟩
        · have hs1 : (s1 == se) = false := by simpa using hs1
          refine region_grew [[], [(0, 22)], [(1, 23)], [(2, 24)], [], [(3, 25), (4, 26)], [(5, 27)], [(6, 28)], [], [(8, 30)], [(7, 29), (9, 31)], [(10, 32)], [(11, 33)], [(11, 33), (12, 34)], [(11, 33), (13, 35)], [(11, 33), (14, 36)], [(11, 33)], [(11, 33), (15, 37), (16, 38)], [(11, 33), (17, 39)], [(11, 33), (18, 40)], [(11, 33)], [(11, 33), (20, 42)], [(11, 33), (21, 43)], [(11, 33), (19, 41), (22, 44)], [(11, 33), (23, 45)]] [(0, 22), (1, 23), (2, 24), (3, 25), (4, 26), (5, 27), (6, 28), (7, 29), (8, 30), (9, 31), (10, 32), (11, 33), (12, 34), (13, 35), (14, 36), (15, 37), (16, 38), (17, 39), (18, 40), (19, 41), (20, 42), (21, 43), (22, 44), (23, 45), (24, 46)] (fun
            | 0 => .eqv (.pointer (some ⟨p, 0, none⟩)) | 1 => .eqv (.pointer (some ⟨p, 0, none⟩)) | 2 => .eqv (.pointer (some ⟨p, 2, none⟩)) | 3 => .eqv (.slice (some ⟨b, o, none⟩) rows.length cL) | 4 => .eqv (.int .i64 (j : Int)) | 5 => .eqv (.pointer (some ⟨b, o + j * 3, none⟩)) | 6 => .eqv (.pointer (some ⟨b, o + j * 3, none⟩)) | 7 => .eqv (.int .i64 s1) | 8 => .eqv (.pointer (some ⟨hb, 1, none⟩)) | 9 => .eqv (.int .i64 se) | 10 => .eqv (.bool false) | 11 => .eqv (.bool false) | 12 => .any | 13 => .any | 14 => .any | 15 => .any | 16 => .any | 17 => .any | 18 => .any | 19 => .any | 20 => .any | 21 => .any | 22 => .any | 23 => .any | 24 => .eqv (.bool false) | _ => .any) (by kernel_rfl) ?_ ?_
          · refine ⟨fun u hu => ?_, fun u hu => ?_, fun u hu => ?_, fun u hu => ?_, fun u hu => ?_, fun u hu => ?_, fun u hu => ?_, fun u hu => ?_, fun u hu => ?_, fun u hu => ?_, fun u hu => ?_, fun u hu => ?_, fun u hu => ?_, fun u hu => ?_, fun u hu => ?_, fun u hu => ?_, fun u hu => ?_, fun u hu => ?_, fun u hu => ?_, fun u hu => ?_, fun u hu => ?_, fun u hu => ?_, fun u hu => ?_, fun u hu => ?_, fun u hu => ?_, trivial⟩
            · refine StepGoal.nil ?_
              go_wp2
              exact ⟨rfl, rfl, Grew.rf _, rfl⟩
            · rintro _ rfl
              refine StepGoal.nil ?_
              simp only [Act.put, List.setIfInBounds_toArray, List.set_cons_zero, List.set_cons_succ]
              go_wp2
              exact ⟨rfl, rfl, Grew.rf _, rfl⟩
            · rintro _ rfl
              refine StepGoal.nil ?_
              simp only [Act.put, List.setIfInBounds_toArray, List.set_cons_zero, List.set_cons_succ]
              go_wp2
              exact ⟨rfl, rfl, Grew.rf _, rfl⟩
            · rintro _ rfl
              have hce := hu.ce e2
              refine StepGoal.nil ?_
              simp only [Act.put, List.setIfInBounds_toArray, List.set_cons_zero, List.set_cons_succ]
              go_wp2
              exact ⟨rfl, rfl, Grew.rf _, rfl⟩
            · refine StepGoal.nil ?_
              go_wp2
              exact ⟨rfl, rfl, Grew.rf _, rfl⟩
            · rintro _ rfl _ rfl
              refine StepGoal.nil ?_
              simp only [Act.put, List.setIfInBounds_toArray, List.set_cons_zero, List.set_cons_succ]
              go_wp2
              exact ⟨rfl, rfl, Grew.rf _, rfl⟩
            · rintro _ rfl
              refine StepGoal.nil ?_
              simp only [Act.put, List.setIfInBounds_toArray, List.set_cons_zero, List.set_cons_succ]
              go_wp2
              exact ⟨rfl, rfl, Grew.rf _, rfl⟩
            · rintro _ rfl
              have hce := hu.ce d0
              refine StepGoal.nil ?_
              simp only [Act.put, List.setIfInBounds_toArray, List.set_cons_zero, List.set_cons_succ]
              go_wp2
              exact ⟨rfl, rfl, Grew.rf _, rfl⟩
            · refine StepGoal.nil ?_
              go_wp2
              exact ⟨rfl, rfl, Grew.rf _, rfl⟩
            · rintro _ rfl
              have hce := hu.ce e1
              refine StepGoal.nil ?_
              simp only [Act.put, List.setIfInBounds_toArray, List.set_cons_zero, List.set_cons_succ]
              go_wp2
              exact ⟨rfl, rfl, Grew.rf _, rfl⟩
            · rintro _ rfl _ rfl
              refine StepGoal.nil ?_
              simp only [Act.put, List.setIfInBounds_toArray, List.set_cons_zero, List.set_cons_succ]
              go_wp2
              exact ⟨rfl, rfl, Grew.rf _, rfl⟩
            · rintro _ rfl
              refine StepGoal.nil ?_
              simp only [Act.put, List.setIfInBounds_toArray, List.set_cons_zero, List.set_cons_succ]
              go_wp2
              exact ⟨rfl, rfl, Grew.rf _, rfl⟩
            · rintro _ rfl
              refine StepGoal.nil ?_
              simp only [Act.put, List.setIfInBounds_toArray, List.set_cons_zero, List.set_cons_succ]
              go_wp2
              exact ⟨rfl, rfl, Grew.rf _, trivial⟩
            · rintro _ rfl v34 h34
              refine StepGoal.nil ?_
              simp only [Act.put, List.setIfInBounds_toArray, List.set_cons_zero, List.set_cons_succ]
              go_wp2
              exact ⟨rfl, rfl, Grew.rf _, trivial⟩
            · rintro _ rfl v35 h35
              refine StepGoal.nil ?_
              simp only [Act.put, List.setIfInBounds_toArray, List.set_cons_zero, List.set_cons_succ]
              go_wp2
              exact ⟨rfl, rfl, Grew.rf _, trivial⟩
            · rintro _ rfl v36 h36
              refine StepGoal.nil ?_
              simp only [Act.put, List.setIfInBounds_toArray, List.set_cons_zero, List.set_cons_succ]
              go_wp2
              exact ⟨rfl, rfl, Grew.rf _, trivial⟩
            · rintro _ rfl
              refine StepGoal.nil ?_
              simp only [Act.put, List.setIfInBounds_toArray, List.set_cons_zero, List.set_cons_succ]
              go_wp2
              exact ⟨rfl, rfl, Grew.rf _, trivial⟩
            · rintro _ rfl v37 h37 v38 h38
              refine StepGoal.nil ?_
              simp only [Act.put, List.setIfInBounds_toArray, List.set_cons_zero, List.set_cons_succ]
              go_wp2
              exact ⟨rfl, rfl, Grew.rf _, trivial⟩
            · rintro _ rfl v39 h39
              refine StepGoal.nil ?_
              simp only [Act.put, List.setIfInBounds_toArray, List.set_cons_zero, List.set_cons_succ]
              go_wp2
              exact ⟨rfl, rfl, Grew.rf _, trivial⟩
            · rintro _ rfl v40 h40
              refine StepGoal.nil ?_
              simp only [Act.put, List.setIfInBounds_toArray, List.set_cons_zero, List.set_cons_succ]
              go_wp2
              exact ⟨rfl, rfl, Grew.rf _, trivial⟩
            · rintro _ rfl
              refine StepGoal.nil ?_
              simp only [Act.put, List.setIfInBounds_toArray, List.set_cons_zero, List.set_cons_succ]
              go_wp2
              exact ⟨rfl, rfl, Grew.rf _, trivial⟩
            · rintro _ rfl v42 h42
              refine StepGoal.nil ?_
              simp only [Act.put, List.setIfInBounds_toArray, List.set_cons_zero, List.set_cons_succ]
              go_wp2
              exact ⟨rfl, rfl, Grew.rf _, trivial⟩
            · rintro _ rfl v43 h43
              refine StepGoal.nil ?_
              simp only [Act.put, List.setIfInBounds_toArray, List.set_cons_zero, List.set_cons_succ]
              go_wp2
              exact ⟨rfl, rfl, Grew.rf _, trivial⟩
            · rintro _ rfl v41 h41 v44 h44
              refine StepGoal.nil ?_
              simp only [Act.put, List.setIfInBounds_toArray, List.set_cons_zero, List.set_cons_succ]
              go_wp2
              exact ⟨rfl, rfl, Grew.rf _, trivial⟩
            · rintro _ rfl v45 h45
              refine StepGoal.nil ?_
              simp only [Act.put, List.setIfInBounds_toArray, List.set_cons_zero, List.set_cons_succ]
              go_wp2
              exact ⟨rfl, rfl, Grew.rf _, rfl⟩
          · intro u hu
            rintro _ rfl _ rfl _ rfl _ rfl _ rfl _ rfl _ rfl _ rfl _ rfl _ rfl _ rfl _ rfl v34 h34 v35 h35 v36 h36 v37 h37 v38 h38 v39 h39 v40 h40 v41 h41 v42 h42 v43 h43 v44 h44 v45 h45 _ rfl
            refine StepGoal.nil ?_
            simp only [Act.put, List.setIfInBounds_toArray, List.set_cons_zero, List.set_cons_succ]
            go_wp2_with fail
            go_meet
            exact ⟨by simp [hs1], hu⟩
      case rest =>
        obtain ⟨rfl, hgc⟩ := hcut
        obtain ⟨w6, rfl⟩ : ∃ w6, w6 = wc := ⟨_, rfl⟩
        have HG6 := Lib.hid (HG.out.tr hgc)
        have e26 := hgc.ce e2
        have e56 := hgc.ce e5
        clear hgc e0 e1 e5 e2 d0 d1
        by_cases hkey : s1 = se ∧ a1 = b3
        · obtain ⟨rfl, rfl⟩ := hkey
          have hbb : ((s1 == s1) && (a1 == a1)) = true := by simp
          rw [hbb]
          clear hbb
          go_upto_region 7 with fail
          refine region_split 7 [[], [(0, 47)], [(1, 48)], [(2, 49)], [], [], [(5, 52)], [(0, 47), (1, 48), (2, 49), (3, 50), (4, 51), (5, 52), (6, 53)], [(0, 47), (1, 48), (2, 49), (3, 50), (4, 51), (5, 52), (6, 53), (7, 54)], [(0, 47), (1, 48), (2, 49), (3, 50), (4, 51), (5, 52), (6, 53), (8, 55)]] [(0, 47), (1, 48), (2, 49), (3, 50), (4, 51), (5, 52), (6, 53)] (fun
            | 0 => .eqv (.pointer (some ⟨p, 0, none⟩)) | 1 => .eqv (.pointer (some ⟨p, 0, none⟩)) | 2 => .eqv (.pointer (some ⟨p, 2, none⟩)) | 3 => .eqv (.slice (some ⟨b, o, none⟩) rows.length cL) | 4 => .eqv (.int .i64 (j : Int)) | 5 => .eqv (.pointer (some ⟨hb, 5, none⟩)) | 6 => .eqv (.slice A n c) | _ => .any) (by kernel_rfl) ?_ ?_
          · refine ⟨fun u hu => ?_, fun u hu => ?_, fun u hu => ?_, fun u hu => ?_, fun u hu => ?_, fun u hu => ?_, fun u hu => ?_, trivial⟩
            · refine StepGoal.nil ?_
              go_wp2
              exact ⟨rfl, rfl, Grew.rf _, rfl⟩
            · rintro _ rfl
              refine StepGoal.nil ?_
              simp only [Act.put, List.setIfInBounds_toArray, List.set_cons_zero, List.set_cons_succ]
              go_wp2
              exact ⟨rfl, rfl, Grew.rf _, rfl⟩
            · rintro _ rfl
              refine StepGoal.nil ?_
              simp only [Act.put, List.setIfInBounds_toArray, List.set_cons_zero, List.set_cons_succ]
              go_wp2
              exact ⟨rfl, rfl, Grew.rf _, rfl⟩
            · rintro _ rfl
              have hce := hu.ce e26
              refine StepGoal.nil ?_
              simp only [Act.put, List.setIfInBounds_toArray, List.set_cons_zero, List.set_cons_succ]
              go_wp2
              exact ⟨rfl, rfl, Grew.rf _, rfl⟩
            · refine StepGoal.nil ?_
              go_wp2
              exact ⟨rfl, rfl, Grew.rf _, rfl⟩
            · refine StepGoal.nil ?_
              go_wp2
              exact ⟨rfl, rfl, Grew.rf _, rfl⟩
            · rintro _ rfl
              have hce := hu.ce e56
              refine StepGoal.nil ?_
              simp only [Act.put, List.setIfInBounds_toArray, List.set_cons_zero, List.set_cons_succ]
              go_wp2
              exact ⟨rfl, rfl, Grew.rf _, rfl⟩
          · intro u hu
            rintro _ rfl _ rfl _ rfl _ rfl _ rfl _ rfl _ rfl
            refine StepGoal.nil ?_
            simp only [Act.put, List.setIfInBounds_toArray, List.set_cons_zero, List.set_cons_succ]; simp only [List.drop_succ_cons, List.drop_zero]
            have hBu := HB2.out.keep (HG6.out.tr hu)
            have hbo : o = 0 := by
              rcases hBu.own.own.2 with ⟨hv, _⟩ | ⟨g, cp, cur, hv, _⟩
              · cases hv
              · cases hv; rfl
            subst hbo
            obtain ⟨cur, hcur⟩ := hBu.own.block rfl
            have f5 := frozen_of_heap (i := j * 3 + 2) hcur
            obtain ⟨A', c', hv', -, -, hrd'⟩ := hBu.own.rd
            cases hv'
            obtain ⟨b', o', hA', hcl'⟩ := hrd'.cells (by omega)
            cases hA'
            have d2 := hcl' _ _ (lncs_get rows j _ HRJ.out).2.2
            rw [Nat.zero_add] at d2
            have HBU := Lib.hid hBu
            have HU := Lib.hid (HG6.out.tr hu)
            clear hBu hcur hrd' hcl' hu
            go_wp2
            refine bodyPost_ret (results_none rfl _ _ _) rfl ⟨rfl, ?_⟩
            rw [HTB.out]
            have hst := HBU.out.own.stored (j * 3 + 2) (.slice A n c)
            have hch7 := setC_chg u b (j * 3 + 2) (.slice A n c)
            have hne2 : ¬ (p = b) := fun e => by have := HBU.out.apart.1; rw [e] at this; exact this rfl
            have hcell := (setCell_heap_other u ⟨b, j * 3 + 2, none⟩ (.slice A n c) hne2).trans HBU.out.cells
            have hchL : Chg (fun b' => b' = p ∨ (Value.slice (some ⟨b, 0, none⟩) rows.length cL).ownBlock = some b') u (u.setCell ⟨b, j * 3 + 2, none⟩ (.slice A n c)) := hch7.mono (fun b' e => .inr (by rw [e]; rfl))
            have hlset : lncs (rows.set j (s1, a1, A, n, c)) = (lncs rows).set (j * 3 + 2) (.slice A n c) := lncs_set rows j (s1, a1, Ar, nr, cr') A n c HRJ.out
            have hnl : (rows.set j (s1, a1, A, n, c)).length = rows.length := List.length_set
            have hln : LinesI u (ftR p tp lv (.slice (some ⟨b, 0, none⟩) rows.length cL)) (rows.set j (s1, a1, A, n, c)) (setL s.L s1 a1 hs) := HBU.out.lines.set HRJ.out HK.out (HR2.out.keep HU.out) hn (fun h0 ad e => ⟨HAF.out h0 ad e, by have h1 := HAL.out h0 ad e; have h2 := HC2.out.size; have h3 := HU.out.size; omega⟩)
            have hfin := HBU.out.lines2 (LV' := .slice (some ⟨b, 0, none⟩) rows.length cL) hk hchL hcell (by rw [hlset, hnl]; exact hst) (fun b' hb' => .inl hb') hln (by rw [hnl]; omega)
            exact ⟨⟨_, _, hfin, fun b' hb' => .inl hb', fun M hM hR => hR.set hM _⟩, HC2.out.tr ((Chg.of HU.out).tr (hchL.mono (fun b' h => .inl (.inl h))))⟩
        · have hbb : ((s1 == se) && (a1 == b3)) = false := by
            by_cases h1 : s1 = se
            · by_cases h2 : a1 = b3
              · exact absurd ⟨h1, h2⟩ hkey
              · simp [h2]
            · simp [h1]
          rw [hbb]
          have HKEY := Lib.hid hkey
          clear hbb hkey e26 e56
          go_wp2_with fail
          go_roundw
          case rel => exact ⟨j + 1, by go_num, by omega, Lib.hid (fun m q hm hq h => by
            by_cases he : m = j
            · subst he; rw [HRJ.out] at hq; obtain rfl := Option.some.inj hq; exact HKEY.out h
            · exact HK.out m q (by omega) hq h), HG6⟩
          case measure => simp [intOf]; omega
    · have hnk : ∀ r ∈ rows, ¬ keyL r se b3 := fun q hq h => by
        obtain ⟨m, hm, e⟩ := List.getElem_of_mem hq
        exact HK.out m q (by omega) (by rw [List.getElem?_eq_getElem hm, e]) h
      have HNK := Lib.hid hnk
      obtain ⟨n0, hn0, hn1⟩ : ∃ n0, n0 ≤ wr.heap.size ∧ wr.heap.size ≤ n0 := ⟨_, Nat.le_refl _, Nat.le_refl _⟩
      have hBr := HB2.out.keep HG.out
      have hXr := heap_keep HG.out HX.out
      have hapx : (Value.slice AL rows.length cL).ownBlock ≠ some hb := fun e => by have := HLT.out hb e; have := HHB.out; omega
      have hS := tzL (wz := wr) (LV := .slice AL rows.length cL) (p := p) (xb := hb) (n0 := n0) (rows := rows) (o := .cells #[.pointer (some ⟨tp, 0, none⟩), .int .i64 ti, .slice AL rows.length cL] 87) (o2 := .cells xc 34) hBr.apart.1 hapx
      have hZ0 : wr.heap[p]? = some (.cells #[.pointer (some ⟨tp, 0, none⟩), .int .i64 ti, .slice AL rows.length cL] 87) ∧ wr.heap[hb]? = some (.cells xc 34) := ⟨hBr.cells, hXr⟩
      have hX1 := hBr.own
      have HBR := Lib.hid hBr
      have HRR := Lib.hid (HR2.out.keep HG.out)
      clear hnk hBr hXr hapx hj
      go_upto_region 8 with fail
      clear hlt e2
      refine region_twoz 14 17 hS (Chg.of (Grew.rf wr)) hX1 hZ0 [(14, 13), (17, 13), (17, 14)] [[], [], [(1, 57)], [(2, 58)], [(3, 59)], [], [(5, 61)], [], [(7, 63)], [(8, 64)], [], [(10, 66)], [(6, 62), (9, 65), (11, 67)], [(12, 68)], [(4, 60), (13, 69)], [(0, 56)], [(15, 71)], [(14, 70), (16, 72)]] [(0, 56), (1, 57), (2, 58), (3, 59), (4, 60), (5, 61), (6, 62), (7, 63), (8, 64), (9, 65), (10, 66), (11, 67), (12, 68), (13, 69), (14, 70), (15, 71), (16, 72)] (fun
        | 0 => .eqv (.pointer (some ⟨p, 0, none⟩)) | 1 => .eqv (.pointer (some ⟨p, 0, none⟩)) | 2 => .eqv (.pointer (some ⟨p, 0, none⟩)) | 3 => .eqv (.pointer (some ⟨p, 2, none⟩)) | 4 => .eqv (.slice AL rows.length cL) | 5 => .eqv (.pointer (some ⟨hb, 1, none⟩)) | 6 => .eqv (.int .i64 se) | 7 => .eqv (.pointer (some ⟨hb, 0, none⟩)) | 8 => .eqv (.int .i64 ki) | 9 => .eqv (.bool b3) | 10 => .eqv (.pointer (some ⟨hb, 5, none⟩)) | 11 => .eqv (.slice A n c) | 12 => .eqv (.agg #[.int .i64 se, .bool b3, .slice A n c]) | 13 => pxLn (.slice AL rows.length cL) p n0 (se, b3, A, n, c) | 14 => pxLo (.slice AL rows.length cL) p n0 (rows ++ [(se, b3, A, n, c)]) | 15 => .eqv (.pointer (some ⟨p, 0, none⟩)) | 16 => .eqv (.pointer (some ⟨p, 2, none⟩)) | 17 => pxLq (.slice AL rows.length cL) p n0 tp lv (rows ++ [(se, b3, A, n, c)]) (k + 1) ⟨s.ts, ti, setL s.L se b3 hs⟩ | _ => .any) rfl (by kernel_rfl) (by kernel_rfl) ?_ ?_
      · refine ⟨fun u hu hx => ?_, fun u hu hx => ?_, fun u hu hx => ?_, fun u hu hx => ?_, fun u hu hx => ?_, fun u hu hx => ?_, fun u hu hx => ?_, fun u hu hx => ?_, fun u hu hx => ?_, fun u hu hx => ?_, fun u hu hx => ?_, fun u hu hx => ?_, fun u hu hx => ?_, fun u hu hx => ?_, fun u hu hx => ?_, fun u hu hx => ?_, fun u hu hx => ?_, fun u hu hx => ?_, trivial⟩
        · refine StepGoal.nil ?_
          go_wp2
          exact ⟨rfl, rfl, Grew.rf _, rfl⟩
        · refine StepGoal.nil ?_
          go_wp2
          exact ⟨rfl, rfl, Grew.rf _, rfl⟩
        · rintro _ rfl
          refine StepGoal.nil ?_
          simp only [Act.put, List.setIfInBounds_toArray, List.set_cons_zero, List.set_cons_succ]
          go_wp2
          exact ⟨rfl, rfl, Grew.rf _, rfl⟩
        · rintro _ rfl
          refine StepGoal.nil ?_
          simp only [Act.put, List.setIfInBounds_toArray, List.set_cons_zero, List.set_cons_succ]
          go_wp2
          exact ⟨rfl, rfl, Grew.rf _, rfl⟩
        · rintro _ rfl
          have hce := cell_of_heap (i := 2) hx.1 rfl; simp only [List.getElem_toArray, List.getElem_cons_zero, List.getElem_cons_succ] at hce; clear hx
          refine StepGoal.nil ?_
          simp only [Act.put, List.setIfInBounds_toArray, List.set_cons_zero, List.set_cons_succ]
          go_wp2
          exact ⟨rfl, rfl, Grew.rf _, rfl⟩
        · refine StepGoal.nil ?_
          go_wp2
          exact ⟨rfl, rfl, Grew.rf _, rfl⟩
        · rintro _ rfl
          have hce : u.cell? ⟨hb, 1, none⟩ = some (.int .i64 se) := (World.cell?_of_block (hx.2.trans hZ0.2.symm)).trans e1; clear hx
          refine StepGoal.nil ?_
          simp only [Act.put, List.setIfInBounds_toArray, List.set_cons_zero, List.set_cons_succ]
          go_wp2
          exact ⟨rfl, rfl, Grew.rf _, rfl⟩
        · refine StepGoal.nil ?_
          go_wp2
          exact ⟨rfl, rfl, Grew.rf _, rfl⟩
        · rintro _ rfl
          have hce : u.cell? ⟨hb, 0, none⟩ = some (.int .i64 ki) := (World.cell?_of_block (hx.2.trans hZ0.2.symm)).trans e0; clear hx
          refine StepGoal.nil ?_
          simp only [Act.put, List.setIfInBounds_toArray, List.set_cons_zero, List.set_cons_succ]
          go_wp2
          exact ⟨rfl, rfl, Grew.rf _, rfl⟩
        · rintro _ rfl
          refine StepGoal.nil ?_
          simp only [Act.put, List.setIfInBounds_toArray, List.set_cons_zero, List.set_cons_succ]
          go_wp2
          exact ⟨rfl, rfl, Grew.rf _, rfl⟩
        · refine StepGoal.nil ?_
          go_wp2
          exact ⟨rfl, rfl, Grew.rf _, rfl⟩
        · rintro _ rfl
          have hce : u.cell? ⟨hb, 5, none⟩ = some (.slice A n c) := (World.cell?_of_block (hx.2.trans hZ0.2.symm)).trans e5; clear hx
          refine StepGoal.nil ?_
          simp only [Act.put, List.setIfInBounds_toArray, List.set_cons_zero, List.set_cons_succ]
          go_wp2
          exact ⟨rfl, rfl, Grew.rf _, rfl⟩
        · rintro _ rfl _ rfl _ rfl
          refine StepGoal.nil ?_
          simp only [Act.put, List.setIfInBounds_toArray, List.set_cons_zero, List.set_cons_succ]
          go_wp2
          exact ⟨rfl, rfl, Grew.rf _, rfl⟩
        · rintro _ rfl
          have hsz := hu.size
          refine StepGoal.nil ?_
          simp only [Act.put, List.setIfInBounds_toArray, List.set_cons_zero, List.set_cons_succ]
          go_wp2
          exact ⟨rfl, rfl, (Grew.rf u).al _, ⟨_, rfl, by omega, lnc_new u (se, b3, A, n, c) _⟩⟩
        · rintro _ rfl v69 h69
          obtain ⟨gb, rfl, hgb, hr13⟩ : ∃ gb, v69 = .slice (some ⟨gb, 0, none⟩) 1 1 ∧ n0 ≤ gb ∧ RdV 3 u (some ⟨gb, 0, none⟩) 1 (lncs [(se, b3, A, n, c)]) := h69; have ho := hx.1; have hsz := hu.size
          refine StepGoal.nil ?_
          simp only [Act.put, List.setIfInBounds_toArray, List.set_cons_zero, List.set_cons_succ]
          refine appV Try.underlying85 ln_info (by decide) (by decide) (by decide) (.inl rfl) rfl rfl rfl ho hr13 (lncs_one _) (by omega) (by omega) ?_; intro v1 w1 ho1 hg1 hat1; go_wp2
          exact ⟨rfl, rfl, Chg.ofBy hg1 (fun b hb => hb), by rw [List.length_append, lncs_append]; exact ho1, (show ∀ b, v1.ownBlock = some b → (Value.slice AL rows.length cL).ownBlock = some b ∨ n0 ≤ b from fun b hb => hat1.elim (fun h => .inl (h.symm.trans hb)) (fun h => .inr (by rw [h] at hb; cases hb; omega)))⟩
        · rintro _ rfl
          refine StepGoal.nil ?_
          simp only [Act.put, List.setIfInBounds_toArray, List.set_cons_zero, List.set_cons_succ]
          go_wp2
          exact ⟨rfl, rfl, Grew.rf _, rfl⟩
        · rintro _ rfl
          refine StepGoal.nil ?_
          simp only [Act.put, List.setIfInBounds_toArray, List.set_cons_zero, List.set_cons_succ]
          go_wp2
          exact ⟨rfl, rfl, Grew.rf _, rfl⟩
        · rintro v70 h70 _ rfl
          obtain ⟨ho16, hf16⟩ : OwnV 138 3 u 0 v70 (rows ++ [(se, b3, A, n, c)]).length (lncs (rows ++ [(se, b3, A, n, c)])) ∧ ∀ b, v70.ownBlock = some b → (Value.slice AL rows.length cL).ownBlock = some b ∨ n0 ≤ b := h70; obtain ⟨A5, c5, rfl, -, -, -⟩ := ho16.rd; have hce5 := cell_of_heap (i := 2) hx.1 rfl; have hfz5 := frozen_of_heap (i := 2) hx.1; have HZ := Lib.hid hx.1; have HO5 := Lib.hid ho16; have HF5 := Lib.hid hf16; have HU := Lib.hid hu; clear ho16 hf16 hx hu
          refine StepGoal.nil ?_
          simp only [Act.put, List.setIfInBounds_toArray, List.set_cons_zero, List.set_cons_succ]
          go_wp2
          exact ⟨rfl, rfl, setC_chg u p 2 _, _, rlast HBR.out HRR.out hn (fun h0 ad e => ⟨HAF.out h0 ad e, by have h1 := HAL.out h0 ad e; have h2 := HC2.out.size; have h3 := HG.out.size; omega⟩) HNK.out hk hn1 HU.out HZ.out (by have h := HO5.out; simp only [List.length_append, List.length_singleton] at h ⊢; exact h) (fun b hb => HF5.out b (by simpa [Value.ownBlock] using hb)), fun b hb => HF5.out b (by simpa [Value.ownBlock] using hb)⟩
      · intro u hu hall
        rintro _ rfl _ rfl _ rfl _ rfl _ rfl _ rfl _ rfl _ rfl _ rfl _ rfl _ rfl _ rfl _ rfl v69 _ v70 _ _ rfl _ rfl
        refine StepGoal.nil ?_
        simp only [Act.put, List.setIfInBounds_toArray, List.set_cons_zero, List.set_cons_succ]
        obtain ⟨v17, h17⟩ := hall 17 (by decide)
        obtain ⟨LV', hq1, hq2⟩ : ∃ LV', RBI u p tp lv LV' (rows ++ [(se, b3, A, n, c)]) (k + 1) ⟨s.ts, ti, setL s.L se b3 hs⟩ ∧ ∀ b, LV'.ownBlock = some b → (Value.slice AL rows.length cL).ownBlock = some b ∨ n0 ≤ b := h17
        have HQ1 := Lib.hid hq1
        have HQ2 := Lib.hid hq2
        have HU := Lib.hid hu
        clear hq1 hq2 hall hS hZ0 hX1 hu
        go_wp2
        refine bodyPost_end (results_none rfl _ _ _) rfl ⟨rfl, ?_⟩
        rw [HTB.out]
        exact ⟨⟨LV', _, HQ1.out, fun b hb => (HQ2.out b hb).imp (fun h => h) (fun h => by have h2 := HC2.out.size; have h3 := HG.out.size; omega), fun M hM hR => hR.push hM⟩, HC2.out.tr ((Chg.of HG.out).tr (HU.out.mono (fun b h => .inl (.inl h))))⟩
end Go.Proofs.Ytbkcpgaicoagfaa
