/- The answer's Book: Take. Printed by wip/mkRt2.py. -/
import Derived.Test.YtbkcpgaicoagfaaRt1
import Derived.Test.YtbkcpgaicoagfaaEg28
set_option linter.unusedVariables false
set_option linter.unusedSimpArgs false
namespace Go.Proofs.Ytbkcpgaicoagfaa
open Go.RowKit

theorem RTo.mv {w0 : World} {tp : Nat} {lv : Value} {qa qb xb xb' : Nat} {AL AL' : Option Addr} {zs zs' : List Int} {ts : List ByteArray} {u : World} (h : RTo w0 tp lv qa qb xb AL zs ts u) (x0 : w0.heap.size ≤ xb') (xa : xb' ≠ qa) (xq : xb' ≠ qb) (hl : RdV 1 u AL' zs'.length (u64s zs')) (hb : ∀ ad, AL' = some ad → ∃ cs fr, u.heap[ad.block]? = some (.cells cs 32 fr)) : RTo w0 tp lv qa qb xb' AL' zs' ts u :=
  ⟨h.tab, h.chg, h.abox, h.bbox, hl, hb, h.a0, x0, xa, xq⟩
theorem u64_info : (Try.prog.info? 32).map (fun i => (i.zero, i.size, i.bytes)) = some (some (.int .u64 0), 1, 8) := by kernel_rfl
theorem u64_new (w : World) (z : Int) (T : TypeId) : RdV 1 (w.alloc (.cells #[.int .u64 z] T)) (some ⟨w.heap.size, 0, none⟩) 1 (u64s [z]) := by
  have hb := heap_alloc_new w (.cells #[.int .u64 z] T)
  refine ⟨rfl, fun _ => ⟨_, 0, rfl, fun j u hj => ?_⟩⟩
  have h0 : j = 0 := by have := (List.getElem?_eq_some_iff.1 hj).1; simp [u64s] at this; omega
  subst h0
  simp [u64s] at hj
  subst hj
  simp only [World.cell?, hb]
  simp
theorem numL_bd {bs : List Int} (hb : Byt bs) : ∀ (m : Nat) (a : Int), ∀ z ∈ (numL bs m a).1, 0 ≤ z ∧ z < 18446744073709551616
  | 0, a, z, h => by cases h
  | m + 1, a, z, h => by
    rw [numL] at h
    rcases List.mem_append.1 h with h | h
    · exact numL_bd hb m a z h
    · rw [List.mem_singleton] at h
      subst h
      unfold numR
      split
      · have := lebTake_bd hb (numL bs m a).2.1
        exact ⟨this.1, this.2.1⟩
      · exact ⟨Int.le_refl _, by omega⟩
/-- The state without a word of the event's fields. -/
def RTx (w0 : World) (tp : Nat) (lv : Value) (qa qb xb : Nat) (AL : Option Addr) (zs : List Int) (ts : List ByteArray) (u : World) : Prop := RTo w0 tp lv qa qb xb AL zs ts u ∧ ∃ cs, u.heap[xb]? = some (.cells cs 34)
theorem RTx.keep {w0 : World} {tp : Nat} {lv : Value} {qa qb xb : Nat} {AL : Option Addr} {zs : List Int} {ts : List ByteArray} {u u' : World} (h : RTx w0 tp lv qa qb xb AL zs ts u) (hg : Grew u u') : RTx w0 tp lv qa qb xb AL zs ts u' := by
  obtain ⟨h1, cs, h2⟩ := h
  exact ⟨h1.keep hg, cs, heap_keep hg h2⟩
theorem RTx.set {w0 : World} {tp : Nat} {lv : Value} {qa qb xb : Nat} {AL : Option Addr} {zs : List Int} {ts : List ByteArray} {u : World} (h : RTx w0 tp lv qa qb xb AL zs ts u) (j : Nat) (x : Value) : RTx w0 tp lv qa qb xb AL zs ts (u.setCell ⟨xb, j, none⟩ x) := by
  obtain ⟨h1, cs, h2⟩ := h
  have hb : u.grownBy (u.setCell ⟨xb, j, none⟩ x) (some xb) := setCell_by u ⟨xb, j, none⟩ x
  exact ⟨h1.by_ hb h2 h1.x0 h1.xa h1.xq, _, setCell_heap_same h2 (i := j) x⟩
theorem worF_eq {ki : Int} (h : 1 ≤ ki ∧ ki ≤ 7) : worF ki = (if ki ≤ 2 then [3, 4] else []) ++ (if ki = 1 then [10] else []) ++ (if ki ≤ 3 then [6] else []) := by
  rcases (by omega : ki = 1 ∨ ki = 2 ∨ ki = 3 ∨ ki = 4 ∨ ki = 5 ∨ ki = 6 ∨ ki = 7) with rfl | rfl | rfl | rfl | rfl | rfl | rfl <;> simp [worF]
theorem isL_le {ki : Int} (h : 1 ≤ ki) : isL ki = decide (ki ≤ 3) := by
  unfold isL
  by_cases h3 : ki ≤ 3
  · rcases (by omega : ki = 1 ∨ ki = 2 ∨ ki = 3) with rfl | rfl | rfl <;> rfl
  · rw [decide_eq_false h3, decide_eq_false (by omega), decide_eq_false (by omega), decide_eq_false (by omega)]
    rfl
theorem xRef_tx (s : PB) (ki : Int) (zs : List Int) : (xRef s ki zs).ki = ki ∧ (xRef s ki zs).ur = noT ∧ (xRef s ki zs).no = noT ∧ (xRef s ki zs).bo = noT ∧ (xRef s ki zs).hs = [] := by
  unfold xRef
  dsimp only
  (repeat' split) <;> exact ⟨rfl, rfl, rfl, rfl, rfl⟩
theorem noT_empty : ByteArray.empty = noT := rfl
theorem RDTakeQ.lst {w w' : World} {p : Nat} {lv : Value} {z : List Hdr × Int × Int × List ByteArray} {e : Ending} (h : RDTakeQ w p lv z e w') : ∃ H m d, e = .returned (.tuple #[.slice H m d, .int .i64 z.2.1, .int .i64 z.2.2.1]) ∧ RTakeQ w w' p lv z.2.2.2 ∧ LstF w.heap.size (if z.2.2.1 = 0 then z.1 else []) (.slice H m d) w' := by
  obtain ⟨v, he, hT, h1, h2⟩ := h
  by_cases h0 : z.2.2.1 = 0
  · have hO := h1 h0
    have hO' := hO
    obtain ⟨B, c0, rfl, h3, h4, hr⟩ := hO.rd
    refine ⟨B, _, c0, he, hT, ?_⟩
    rw [if_pos h0]
    refine ⟨B, _, c0, rfl, hr, h3, h4, OwnV.hdB hO', fun e => ?_, fun ad e => hO'.base_le _ (by rw [e]; rfl)⟩
    rcases hO'.own.2 with ⟨hv, h5⟩ | ⟨g, cp, cur, hv, _⟩
    · simp only [Value.slice.injEq] at hv
      exact ⟨h5, hv.2.2⟩
    · simp only [Value.slice.injEq] at hv
      rw [hv.1] at e
      cases e
  · refine ⟨none, 0, 0, by rw [he, h2 h0], hT, ?_⟩
    rw [if_neg h0]
    exact LstF.nil _ _
theorem getD_nn {zs : List Int} (h : ∀ z ∈ zs, 0 ≤ z) (i : Nat) : 0 ≤ zs.getD i 0 := by
  rw [List.getD_eq_getElem?_getD]
  cases hi : zs[i]? with
  | none => simp
  | some z => simpa using h z (List.mem_of_getElem? hi)
theorem bad1_le {ki : Int} {zs : List Int} (h : bad1 ki zs = false) (hk : ¬ (ki = 2 ∨ ki = 5 ∨ ki = 6)) {j : Nat} {z : Int} (hj : 2 ≤ j) (hz : zs[j]? = some z) : z ≤ 1048576 := by
  unfold bad1 at h
  have h2 := (Bool.or_eq_false_iff.1 h).2
  have f : (!(decide (ki = 2) || decide (ki = 5) || decide (ki = 6))) = true := by simp; omega
  rw [f, Bool.true_and] at h2
  have hm : z ∈ zs.drop 2 := by
    refine List.mem_of_getElem? (i := j - 2) ?_
    rw [List.getElem?_drop, show 2 + (j - 2) = j by omega]
    exact hz
  have := (List.any_eq_false.1 h2) z hm
  simpa using this
theorem xRef_co (s : PB) {ki : Int} {zs : List Int} (hz : ∀ z ∈ zs, 0 ≤ z) : 0 ≤ (xRef s ki zs).co ∧ (xRef s ki zs).co ≤ 1048576 := by
  have hg := getD_nn hz 2
  have hle : ∀ (j : Nat), 2 ≤ j → bad1 ki zs = false → ¬ (ki = 2 ∨ ki = 5 ∨ ki = 6) → zs.getD j 0 ≤ 1048576 := fun j hj hb hk => by
    rw [List.getD_eq_getElem?_getD]
    cases hi : zs[j]? with
    | none => simp
    | some z => simpa using bad1_le hb hk hj hi
  unfold xRef
  dsimp only
  by_cases hb : bad1 ki zs = true
  · rw [if_pos hb]
    split <;> exact ⟨Int.le_refl _, (show (0 : Int) ≤ 1048576 by decide)⟩
  · have hb' : bad1 ki zs = false := by simpa using hb
    have hb0 : bad0 zs = false := by unfold bad1 at hb'; exact (Bool.or_eq_false_iff.1 hb').1
    rw [if_neg hb, hb0]
    simp only [Bool.false_eq_true, if_false]
    split
    · exact ⟨hg, hle 2 (Nat.le_refl _) hb' (by omega)⟩
    · split
      · dsimp only
        omega
      · split
        · exact ⟨Int.le_refl _, (show (0 : Int) ≤ 1048576 by decide)⟩
        · split
          · exact ⟨Int.le_refl _, (show (0 : Int) ≤ 1048576 by decide)⟩
          · split
            · exact ⟨hg, hle 2 (Nat.le_refl _) hb' (by omega)⟩
            · exact ⟨Int.le_refl _, (show (0 : Int) ≤ 1048576 by decide)⟩
theorem wordsR_bd2 {bs : List Int} (hb : Byt bs) (hl : bs.length ≤ 1000000) : ∀ (l : List Nat) (x : Ev) (a e : Int) (ts : List ByteArray), -9223372036854775808 ≤ a → a ≤ 9223372036854775807 → -9223372036854775808 ≤ (wordsR bs l x a e ts).2.1 ∧ (wordsR bs l x a e ts).2.1 ≤ 9223372036854775807 ∧ (wordsR bs l x a e ts).2.2.2.length ≤ ts.length + l.length
  | [], _, _, _, ts, h0, h1 => ⟨h0, h1, by simp [wordsR]⟩
  | f :: l, x, a, e, ts, h0, h1 => by
    have hbd := textR_bd hb hl ts e h0 h1
    have h := wordsR_bd2 hb hl l (setT x f (textR ts bs a e).1) (textR ts bs a e).2.1 (textR ts bs a e).2.2.1 (textR ts bs a e).2.2.2 hbd.1 hbd.2.1
    simp only [wordsR, List.length_cons]
    omega
theorem wordsR_app (bs : List Int) : ∀ (l m : List Nat) (x : Ev) (a e : Int) (ts : List ByteArray), wordsR bs (l ++ m) x a e ts = wordsR bs m (wordsR bs l x a e ts).1 (wordsR bs l x a e ts).2.1 (wordsR bs l x a e ts).2.2.1 (wordsR bs l x a e ts).2.2.2
  | [], _, _, _, _, _ => rfl
  | f :: l, m, x, a, e, ts => by
    rw [List.cons_append, wordsR, wordsR]
    exact wordsR_app bs l m _ _ _ _
theorem getD_of {zs : List Int} {j : Nat} {z : Int} (h : zs[j]? = some z) : zs.getD j 0 = z := by rw [List.getD_eq_getElem?_getD, h]; rfl

set_option maxRecDepth 100000 in
set_option maxHeartbeats 12800000 in
theorem rbtake_any (p tp : Nat) (lv LV : Value) (rows : List Lnr) (k : Nat) (s : PB) (A : Option Addr) (n c : Nat) (bs : List Int) (at_ : Int) (w : World) (hB : RBI w p tp lv LV rows k s) (hrb : Rd w A n bs) (hb : Byt bs) (hnc : n ≤ c) (hc : c ≤ 9223372036854775807) (hn : n ≤ 1000000) (h0 : -9223372036854775808 ≤ at_) (h1 : at_ ≤ 9223372036854775807) (hAf : 0 < n → ∀ ad, A = some ad → ¬ ftR p tp lv LV ad.block) (hk : k < 990) (hL : LOk s) :
    Calls Try.prog 18 #[.pointer (some ⟨p, 0, none⟩), .slice A n c, .int .i64 at_] w (RBTakeQ w p tp lv LV rows k (takeB s bs at_)) := by
  have hbl : bs.length ≤ 1000000 := by rw [hrb.len]; exact hn
  have hAlt : 0 < n → ∀ ad, A = some ad → ad.block < w.heap.size := fun hp ad e => by
    obtain ⟨b, o, e2, hcl⟩ := hrb.cells hp
    rw [e2] at e; cases e
    exact lt_of_cell (p := ⟨b, o + 0, none⟩) (hcl 0 hp)
  have hleb := fun (u : World) (hr : Rd u A n bs) (a v nx e : Int) (he : lebTake bs a = (v, nx, e)) (h0 : -9223372036854775808 ≤ a) (h1 : a ≤ 9223372036854775807) => rtake_to4 A n c bs a v nx e he u hr hb hnc hc (by omega) h0 h1
  have hbd := fun (a : Int) => lebTake_bd hb a
  have HB := Lib.hid hB
  have HRB := Lib.hid hrb
  have HAF := Lib.hid hAf
  have HALT := Lib.hid hAlt
  have HBYT := Lib.hid hb
  have HBL := Lib.hid hbl
  have HLEB := Lib.hid hleb
  have HBD := Lib.hid hbd
  have HLOK := Lib.hid hL
  clear hB hrb hAf hAlt hb hbl hleb hbd hL
  obtain ⟨⟨v1, n1, e1⟩, hr1⟩ : ∃ r, lebTake bs at_ = r := ⟨_, rfl⟩
  have hb1 := HBD.out at_
  rw [hr1] at hb1
  dsimp only at hb1
  have hfew := HB.out.few
  have hap := HB.out.apart
  have hcells := HB.out.cells
  have ht0 := HB.out.t0
  have ht1 := HB.out.t1
  have HFEW := Lib.hid hfew
  have HAP := Lib.hid hap
  have HCELLS := Lib.hid hcells
  have HT0 := Lib.hid ht0
  have HT1 := Lib.hid ht1
  have HR1 := Lib.hid hr1
  clear hfew hap hcells ht0 ht1 hr1
  go_enter Try.func18, Try.ntmps18
  go_upto_region 1 with fail
  have hqa0 := heap_alloc_new w (.cells #[.int .i64 0, .int .i64 0, .int .i64 0, .string { data := #[] }, .string { data := #[] }, .slice none 0 0, .string { data := #[] }, .int .i64 0, .int .i64 0, .bool false, .string { data := #[] }, .int .u64 0] 34)
  have hga : Grew w (w.alloc (.cells #[.int .i64 0, .int .i64 0, .int .i64 0, .string { data := #[] }, .string { data := #[] }, .slice none 0 0, .string { data := #[] }, .int .i64 0, .int .i64 0, .bool false, .string { data := #[] }, .int .u64 0] 34)) := (Grew.rf w).al _
  have hsa : (w.alloc (.cells #[.int .i64 0, .int .i64 0, .int .i64 0, .string { data := #[] }, .string { data := #[] }, .slice none 0 0, .string { data := #[] }, .int .i64 0, .int .i64 0, .bool false, .string { data := #[] }, .int .u64 0] 34)).heap.size = w.heap.size + 1 := World.size_alloc _ _
  generalize w.alloc (.cells #[.int .i64 0, .int .i64 0, .int .i64 0, .string { data := #[] }, .string { data := #[] }, .slice none 0 0, .string { data := #[] }, .int .i64 0, .int .i64 0, .bool false, .string { data := #[] }, .int .u64 0] 34) = wa at *
  obtain ⟨qa, hqa⟩ : ∃ qa, w.heap.size = qa := ⟨_, rfl⟩
  rw [hqa] at hqa0 hsa ⊢
  have HQA := Lib.hid hqa
  have hqb0 := heap_alloc_new wa (.cells #[.int .i64 0, .int .i64 0, .int .i64 0, .string { data := #[] }, .string { data := #[] }, .slice none 0 0, .string { data := #[] }, .int .i64 0, .int .i64 0, .bool false, .string { data := #[] }, .int .u64 0] 34)
  have hgb : Grew wa (wa.alloc (.cells #[.int .i64 0, .int .i64 0, .int .i64 0, .string { data := #[] }, .string { data := #[] }, .slice none 0 0, .string { data := #[] }, .int .i64 0, .int .i64 0, .bool false, .string { data := #[] }, .int .u64 0] 34)) := (Grew.rf wa).al _
  have HQA0 := Lib.hid hqa0
  have HGA := Lib.hid hga
  have HSA := Lib.hid hsa
  have HGB := Lib.hid hgb
  clear hqa hqa0 hga hsa hgb
  go_upto_region 2 with ((with_reducible refine gate_st 34 (.tmp 9) (.tmp 19) rfl ?_); refine st_row0 rfl rfl rfl rfl rfl hqb0 (by kernel_rfl) rfl (by simp [Value.oneCell']) ?_; intro wb hwb hbyb)
  obtain ⟨qb, hqb⟩ : ∃ qb, wa.heap.size = qb := ⟨_, rfl⟩
  rw [hqb] at hwb hbyb ⊢
  have hqab : qa < qb := by rw [← hqb, HSA.out]; exact Nat.lt_succ_self _
  have hcb := chg1 hbyb
  have hgw : Grew w wb := by
    refine grew_chg (HGA.out.tr HGB.out) hcb (fun x e => ?_)
    have := HQA.out
    omega
  have hO0 : RTo w tp lv qa qb (qb + 1) none [] s.ts wb :=
    ⟨⟨lv, HB.out.tab.keep hgw, fun k hk => .inl hk⟩, Chg.of hgw, hcb.by_ (heap_keep HGB.out HQA0.out) (by omega), hwb, RdV.nil _ _ _, fun ad e => (by cases e), by have := HQA.out; omega, by have := HQA.out; omega, by omega, by omega⟩
  have HO0 := Lib.hid hO0
  have HGWB := Lib.hid hgw
  have HW := Lib.hid HQA.out
  clear hqb hwb hbyb hcb hgw hO0 hqb0 HQA0 HGA HSA HGB HQA
  go_upto_region 3 with (go_at_call 56; refine Calls.mono (HLEB.out _ (HRB.out.keep HGWB.out) at_ v1 n1 e1 HR1.out h0 h1) ?_; rintro e w3 ⟨rfl, hg3⟩)
  have hO3 := HO0.out.keep hg3
  have HG3 := Lib.hid (HGWB.out.tr hg3)
  have HO3 := Lib.hid hO3
  have hqa3 : w3.heap[qa]? = some (.cells #[.int .i64 0, .int .i64 0, .int .i64 0, .string { data := #[] }, .string { data := #[] }, .slice none 0 0, .string { data := #[] }, .int .i64 0, .int .i64 0, .bool false, .string { data := #[] }, .int .u64 0] 34) := hO3.abox
  have hqb3 : w3.heap[qb]? = some (.cells #[.int .i64 0, .int .i64 0, .int .i64 0, .string { data := #[] }, .string { data := #[] }, .slice none 0 0, .string { data := #[] }, .int .i64 0, .int .i64 0, .bool false, .string { data := #[] }, .int .u64 0] 34) := hO3.bbox
  clear hO3 hg3 HO0 HGWB
  by_cases he1 : e1 = 0
  case neg =>
    have d1 : (e1 == 0) = false := by simpa using he1
    have dd1 : decide (e1 = 0) = false := by simpa using he1
    have HE1 := Lib.hid he1
    clear he1
    go_wp2_with (first | ((with_reducible refine gate_ld' 34 (.tmp 9) rfl ?_); refine ld_row (.inl rfl) rfl rfl hqb3 rfl Try.underlying34 (by kernel_rfl) ?_) | ((with_reducible refine gate_st 34 (.tmp 6) (.tmp 29) rfl ?_); refine st_row0 rfl rfl rfl rfl rfl hqa3 (by kernel_rfl) rfl (by simp [Value.oneCell']) ?_; intro W9 hW9 hby9))
    refine bodyPost_ret (rtake_ret rfl rfl rfl hW9 rfl) rfl ?_
    exact HO3.out.err HB.out hby9 (Nat.le_trans HFEW.out (by omega)) hk (takeB_err0 HR1.out HE1.out)
  case pos =>
  subst he1
  by_cases hk17 : 1 ≤ v1 ∧ v1 ≤ 7
  case neg =>
    have HK := Lib.hid hk17
    by_cases hl1 : v1 < 1
    · clear hk17
      go_wp2_with (first | ((with_reducible refine gate_ld' 34 (.tmp 9) rfl ?_); refine ld_row (.inl rfl) rfl rfl hqb3 rfl Try.underlying34 (by kernel_rfl) ?_) | ((with_reducible refine gate_st 34 (.tmp 6) (.tmp 37) rfl ?_); refine st_row0 rfl rfl rfl rfl rfl hqa3 (by kernel_rfl) rfl (by simp [Value.oneCell']) ?_; intro W9 hW9 hby9))
      refine bodyPost_ret (rtake_ret rfl rfl rfl hW9 rfl) rfl ?_
      exact HO3.out.err HB.out hby9 (Nat.le_trans HFEW.out (by omega)) hk (takeB_bad HR1.out hb1.1 HK.out)
    · have hl7 : 7 < v1 := by omega
      clear hk17
      go_wp2_with (first | ((with_reducible refine gate_ld' 34 (.tmp 9) rfl ?_); refine ld_row (.inl rfl) rfl rfl hqb3 rfl Try.underlying34 (by kernel_rfl) ?_) | ((with_reducible refine gate_st 34 (.tmp 6) (.tmp 37) rfl ?_); refine st_row0 rfl rfl rfl rfl rfl hqa3 (by kernel_rfl) rfl (by simp [Value.oneCell']) ?_; intro W9 hW9 hby9))
      refine bodyPost_ret (rtake_ret rfl rfl rfl hW9 rfl) rfl ?_
      exact HO3.out.err HB.out hby9 (Nat.le_trans HFEW.out (by omega)) hk (takeB_bad HR1.out hb1.1 HK.out)
  case pos =>
  obtain ⟨hk1, hk7⟩ := hk17
  have hl1 : ¬ (v1 < 1) := by omega
  have hl7 : ¬ (7 < v1) := by omega
  go_upto_region 7 with fail
  have hxb0 := heap_alloc_new w3 (.cells #[.int .i64 0, .int .i64 0, .int .i64 0, .string { data := #[] }, .string { data := #[] }, .slice none 0 0, .string { data := #[] }, .int .i64 0, .int .i64 0, .bool false, .string { data := #[] }, .int .u64 0] 34)
  have hgx : Grew w3 (w3.alloc (.cells #[.int .i64 0, .int .i64 0, .int .i64 0, .string { data := #[] }, .string { data := #[] }, .slice none 0 0, .string { data := #[] }, .int .i64 0, .int .i64 0, .bool false, .string { data := #[] }, .int .u64 0] 34)) := (Grew.rf w3).al _
  have HGX := Lib.hid hgx
  clear hgx hqa3 hqb3
  go_upto_region 8 with ((with_reducible refine gate_st 34 (.tmp 12) (.tmp 40) rfl ?_); refine st_row0 rfl rfl rfl rfl rfl hxb0 (by kernel_rfl) rfl (by simp [Value.oneCell']) ?_; intro w5 hw5 hby5)
  have hsz3 : qb < w3.heap.size := (Array.getElem?_eq_some_iff.1 HO3.out.bbox).1
  have hO4 : RTo w tp lv qa qb w3.heap.size none [] s.ts (w3.alloc (.cells #[.int .i64 0, .int .i64 0, .int .i64 0, .string { data := #[] }, .string { data := #[] }, .slice none 0 0, .string { data := #[] }, .int .i64 0, .int .i64 0, .bool false, .string { data := #[] }, .int .u64 0] 34)) := (HO3.out.keep HGX.out).mv HG3.out.size (by omega) (by omega) (RdV.nil _ _ _) (fun ad e => (by cases e))
  have hO5 := hO4.by_ hby5 hxb0 hO4.x0 hO4.xa hO4.xq
  have hG5 : Grew w w5 := grew_chg (HG3.out.tr HGX.out) (chg1 hby5) (fun x e => by have := HG3.out.size; omega)
  obtain ⟨xb, hxb⟩ : ∃ xb, w3.heap.size = xb := ⟨_, rfl⟩
  rw [hxb] at hw5 hO5 ⊢
  have hw5' : w5.heap[xb]? = some (evO { zeroE with ki := v1 } none 0 0) := hw5
  have HO5 := Lib.hid hO5
  have HX5 := Lib.hid hw5'
  have HG5 := Lib.hid hG5
  have c0 : w5.cell? ⟨xb, 0, none⟩ = some (.int .i64 v1) := cell_of_heap hw5' rfl
  clear hxb0 hsz3 hO4 hO5 hG5 hxb hw5 hw5' hby5 HO3 HG3 HGX
  go_cut [13] from 41 to 45 (fun v wx => v = .int .i64 (manyE v1 : Int) ∧ Grew w5 wx)
  case first =>
    have hal : Grew w5 (w5.alloc (.cells #[.int .i64 0, .int .i64 3, .int .i64 5, .int .i64 3, .int .i64 2, .int .i64 3, .int .i64 3, .int .i64 4] 3)) := (Grew.rf w5).al _
    have c0' := hal.ce c0
    have HAL := Lib.hid hal
    clear hal
    rcases (by omega : v1 = 1 ∨ v1 = 2 ∨ v1 = 3 ∨ v1 = 4 ∨ v1 = 5 ∨ v1 = 6 ∨ v1 = 7) with rfl | rfl | rfl | rfl | rfl | rfl | rfl
    all_goals
      go_wp2_with fail
      go_meet
      exact ⟨rfl, HAL.out⟩
  case rest =>
  obtain ⟨rfl, hg6⟩ := hcut
  obtain ⟨w6, rfl⟩ : ∃ w6, w6 = wc := ⟨_, rfl⟩
  have HO6 := Lib.hid (HO5.out.keep hg6)
  have HX6 := Lib.hid (heap_keep hg6 HX5.out)
  have HG6 := Lib.hid (HG5.out.tr hg6)
  have hmany : 2 ≤ manyE v1 ∧ manyE v1 ≤ 5 := by unfold manyE; (repeat' split) <;> omega
  obtain ⟨many, hm⟩ : ∃ m, manyE v1 = m := ⟨_, rfl⟩
  rw [hm] at hmany ⊢
  have HM := Lib.hid hm
  clear hg6 hm HO5 HX5 HG5 c0
  -- the numbers
  go_upto_region 10 with fail
  have hgl : Grew w6 (w6.alloc (.cells #[] 32)) := (Grew.rf w6).al _
  obtain ⟨bq, hbq⟩ : ∃ bq, w6.heap.size = bq := ⟨_, rfl⟩
  have hO0 := (ownV_lit0 32 1 w6).lower (base' := bq) (by omega)
  have HBQ := Lib.hid hbq
  clear hbq
  go_upto_block 0 with fail
  go_cut [2, 11, 14] from 47 to 78 (fun s2 s11 s14 wx => ∃ (zs : List Int) (a : Int), s2 = .int .i64 a ∧ s11 = .int .i64 0 ∧ 0 ≤ a ∧ a ≤ 1000000 ∧ RowKit.Hid (numL bs many n1 = (zs, a, 0)) ∧ RowKit.Hid (v1 = 2 → zs.getD 3 0 ≤ 1) ∧ RowKit.Hid (OwnV 32 1 wx bq s14 many (u64s zs)) ∧ RowKit.Hid (Grew w6 wx))
  case first =>
    go_wp2_with fail
    go_loopw [2, 10, 11, 14, 15] (fun s2 s10 s11 s14 s15 wr => ∃ (j : Nat) (zs : List Int) (a z : Int), s15 = .int .i64 (j : Int) ∧ s2 = .int .i64 a ∧ s10 = .int .u64 z ∧ s11 = .int .i64 0 ∧ j ≤ many ∧ 0 ≤ a ∧ a ≤ 1000000 ∧ RowKit.Hid (numL bs j n1 = (zs, a, 0)) ∧ RowKit.Hid (v1 = 2 → 4 ≤ j → zs.getD 3 0 ≤ 1) ∧ RowKit.Hid (OwnV 32 1 wr bq s14 j (u64s zs)) ∧ RowKit.Hid (Grew w6 wr)) (fun _ _ _ _ s15 _ => many - (intOf s15).toNat)
    case atStart => exact ⟨0, [], n1, v1, rfl, rfl, rfl, rfl, by omega, hb1.2.2.1, by have := HBL.out; omega, Lib.hid rfl, Lib.hid (fun _ h => by omega), Lib.hid hO0, Lib.hid hgl⟩
    case round =>
      rename World => wr
      clear hO0 hgl
      obtain ⟨j, zs, a, z0, rfl, rfl, rfl, rfl, hj, ha0, ha1, HN, HC, HO, HG⟩ := hrel
      by_cases hlt : j < many
      · obtain ⟨⟨z, a2, e2⟩, hz⟩ : ∃ r, lebTake bs a = r := ⟨_, rfl⟩
        have hb2 := HBD.out a
        rw [hz] at hb2
        dsimp only at hb2
        have HZ := Lib.hid hz
        clear hz
        go_upto_region 14 with (go_at_call 56; refine Calls.mono (HLEB.out _ (HRB.out.keep (HG6.out.tr HG.out)) a z a2 e2 HZ.out (by omega) (by omega)) ?_; rintro e w7 ⟨rfl, hg7⟩)
        have HG7 := Lib.hid (HG.out.tr hg7)
        have HGR := Lib.hid hg7
        have hqa7 : w7.heap[qa]? = some (.cells #[.int .i64 0, .int .i64 0, .int .i64 0, .string { data := #[] }, .string { data := #[] }, .slice none 0 0, .string { data := #[] }, .int .i64 0, .int .i64 0, .bool false, .string { data := #[] }, .int .u64 0] 34) := (HO6.out.keep HG7.out).abox
        have hqb7 : w7.heap[qb]? = some (.cells #[.int .i64 0, .int .i64 0, .int .i64 0, .string { data := #[] }, .string { data := #[] }, .slice none 0 0, .string { data := #[] }, .int .i64 0, .int .i64 0, .bool false, .string { data := #[] }, .int .u64 0] 34) := (HO6.out.keep HG7.out).bbox
        clear hg7
        by_cases he2 : e2 = 0
        · subst he2
          have c0 : w7.cell? ⟨xb, 0, none⟩ = some (.int .i64 v1) := cell_of_heap (heap_keep HG7.out HX6.out) rfl
          go_upto_region 16 with fail
          go_cut [73] from 63 to 73 (fun f wx => f = .bool (decide (v1 = 2 ∧ j = 3 ∧ 1 < z)) ∧ w7 = wx)
          case first =>
            by_cases h2 : v1 = 2
            · have d2 : (v1 == 2) = true := by simpa using h2
              have f2 : decide (v1 = 2) = true := decide_eq_true h2
              by_cases h3 : j = 3
              · have d3 : ((j : Int) == 3) = true := by rw [h3]; rfl
                have f3 : decide ((j : Int) = 3) = true := by rw [h3]; rfl
                by_cases hz1 : 1 < z
                · have HD := Lib.hid (decide_eq_true (p := v1 = 2 ∧ j = 3 ∧ 1 < z) ⟨h2, h3, hz1⟩)
                  clear h2 h3
                  go_wp2_with fail
                  go_meet
                  exact ⟨by rw [HD.out], rfl⟩
                · have HD := Lib.hid (decide_eq_false (p := v1 = 2 ∧ j = 3 ∧ 1 < z) (fun h => hz1 h.2.2))
                  clear h2 h3
                  go_wp2_with fail
                  go_meet
                  exact ⟨by rw [HD.out], rfl⟩
              · have d3 : ((j : Int) == 3) = false := by simp; omega
                have f3 : decide ((j : Int) = 3) = false := by simp; omega
                have HD := Lib.hid (decide_eq_false (p := v1 = 2 ∧ j = 3 ∧ 1 < z) (fun h => h3 h.2.1))
                clear h2 h3
                go_wp2_with fail
                go_meet
                exact ⟨by rw [HD.out], rfl⟩
            · have d2 : (v1 == 2) = false := by simpa using h2
              have f2 : decide (v1 = 2) = false := decide_eq_false h2
              have HD := Lib.hid (decide_eq_false (p := v1 = 2 ∧ j = 3 ∧ 1 < z) (fun h => h2 h.1))
              clear h2
              go_wp2_with fail
              go_meet
              exact ⟨by rw [HD.out], rfl⟩
          case rest =>
          obtain ⟨rfl, hwc⟩ := hcut
          subst hwc
          clear c0
          go_upto_if 73 with fail
          by_cases hcr : v1 = 2 ∧ j = 3 ∧ 1 < z
          · rw [decide_eq_true hcr]
            have HCR := Lib.hid hcr
            clear hcr
            go_wp2_with (first | ((with_reducible refine gate_ld' 34 (.tmp 9) rfl ?_); refine ld_row (.inl rfl) rfl rfl hqb7 rfl Try.underlying34 (by kernel_rfl) ?_) | ((with_reducible refine gate_st 34 (.tmp 6) (.tmp 74) rfl ?_); refine st_row0 rfl rfl rfl rfl rfl hqa7 (by kernel_rfl) rfl (by simp [Value.oneCell']) ?_; intro W9 hW9 hby9))
            refine bodyPost_ret (rtake_ret rfl rfl rfl hW9 rfl) rfl ?_
            exact (HO6.out.keep HG7.out).err HB.out hby9 (Nat.le_trans HFEW.out (by omega)) hk (takeB_cred (by rw [← HCR.out.1]; exact HR1.out) (by rw [← HCR.out.2.1]; exact HN.out) HZ.out HCR.out.2.2)
          · rw [decide_eq_false hcr]
            have HCR := Lib.hid hcr
            clear hcr hqa7 hqb7
            go_wp2_with ((with_reducible refine gate_b .append #[.tmp 75, .tmp 77] _ rfl ?_); refine appV Try.underlying114 u64_info (by decide) (by decide) (by decide) (.inl rfl) rfl rfl rfl ((HO.out.keep HGR.out).keep ((Grew.rf w7).al _)) (u64_new w7 z _) (by simp [u64s, Value.oneCell']) (by rw [World.size_alloc]; have h1 := HBQ.out; have h2 := HG7.out.size; omega) (by omega) ?_; intro v5 w8 ho8 hg8 hat8)
            have hG8 : Grew w6 w8 := grew_chg (HG7.out.tr ((Grew.rf w7).al _)) (Chg.ofBy (F := fun x => w6.heap.size ≤ x) hg8 (fun x e => by have h1 := HO.out.base_le x e; have h2 := HBQ.out; omega)) (fun x h => h)
            have HO8 := Lib.hid ho8
            have HG8 := Lib.hid hG8
            clear ho8 hg8 hat8 hG8
            go_roundw
            case rel =>
              refine ⟨j + 1, zs ++ [z], a2, z, by go_num, rfl, rfl, rfl, by omega, hb2.2.2.1, by have := HBL.out; omega, Lib.hid (by rw [numL_snoc HN.out, HZ.out]), Lib.hid (fun h2 h4 => ?_), Lib.hid (by rw [u64s, List.map_append]; exact HO8.out), HG8⟩
              have hzl := numL_len bs n1 j
              rw [HN.out] at hzl
              dsimp only at hzl
              by_cases h3 : j = 3
              · have hz1 : ¬ (1 < z) := fun h => HCR.out ⟨h2, h3, h⟩
                rw [List.getD_eq_getElem?_getD, List.getElem?_append_right (by omega), hzl, h3]
                simpa using hz1
              · have := HC.out h2 (by omega)
                rw [List.getD_eq_getElem?_getD, List.getElem?_append_left (by omega), ← List.getD_eq_getElem?_getD]
                exact this
            case measure => simp [intOf]; omega
        · have d1 : (e2 == 0) = false := by simpa using he2
          have dd1 : decide (e2 = 0) = false := by simpa using he2
          have HE2 := Lib.hid he2
          have HLT : RowKit.Hid (j < manyE v1) := by rw [HM.out]; exact hlt
          clear he2
          go_wp2_with (first | ((with_reducible refine gate_ld' 34 (.tmp 9) rfl ?_); refine ld_row (.inl rfl) rfl rfl hqb7 rfl Try.underlying34 (by kernel_rfl) ?_) | ((with_reducible refine gate_st 34 (.tmp 6) (.tmp 61) rfl ?_); refine st_row0 rfl rfl rfl rfl rfl hqa7 (by kernel_rfl) rfl (by simp [Value.oneCell']) ?_; intro W9 hW9 hby9))
          refine bodyPost_ret (rtake_ret rfl rfl rfl hW9 rfl) rfl ?_
          exact (HO6.out.keep HG7.out).err HB.out hby9 (Nat.le_trans HFEW.out (by omega)) hk (takeB_err HR1.out ⟨hk1, hk7⟩ HN.out HLT.out HZ.out HE2.out HC.out)
      · obtain rfl : j = many := by omega
        have HC2 : RowKit.Hid (v1 = 2 → zs.getD 3 0 ≤ 1) := fun h2 => HC.out h2 (by rw [← HM.out, h2]; decide)
        go_wp2_with fail
        go_meet
        exact ⟨zs, a, rfl, rfl, ha0, ha1, HN, HC2, HO, HG⟩
  case rest =>
  obtain ⟨zs, a, rfl, rfl, ha0, ha1, HN, HC, HO, HG⟩ := hcut
  obtain ⟨w8, hw8⟩ : ∃ w8, w8 = wc := ⟨_, rfl⟩
  subst hw8
  obtain ⟨AL, cL, rfl, -, -, hrl⟩ := HO.out.rd
  have hzl := numL_len bs n1 many
  rw [HN.out] at hzl
  dsimp only at hzl
  have hzb := numL_bd HBYT.out many n1
  rw [HN.out] at hzb
  dsimp only at hzb
  have hO8 : RTo w tp lv qa qb xb AL zs s.ts w8 := (HO6.out.keep HG.out).mv HO6.out.x0 HO6.out.xa HO6.out.xq (by rw [hzl]; exact hrl) (fun ad e => by obtain ⟨cur, hc⟩ := HO.out.block (b := ad.block) (by rw [e]; rfl); exact ⟨_, _, hc⟩)
  have HO8 := Lib.hid hO8
  have HX8 := Lib.hid (heap_keep HG.out HX6.out)
  have HZL := Lib.hid (hzl.trans HM.out.symm)
  have HZB := Lib.hid hzb
  obtain ⟨z0, hz0⟩ : ∃ z, zs[0]? = some z := ⟨_, List.getElem?_eq_getElem (by omega)⟩
  obtain ⟨z1, hz1⟩ : ∃ z, zs[1]? = some z := ⟨_, List.getElem?_eq_getElem (by omega)⟩
  have hzb0 := hzb z0 (List.mem_of_getElem? hz0)
  have hzb1 := hzb z1 (List.mem_of_getElem? hz1)
  have HZ0 := Lib.hid hz0
  have HZ1 := Lib.hid hz1
  clear hO0 hgl hO8 hzl hzb hrl hz0 hz1 HO HG HG6 HO6 HX6 HBQ
  have hb0e : bad0 zs = (decide (1048576 < z0) || decide (1099511627776 < z1)) := by unfold bad0; rw [getD_of HZ0.out, getD_of HZ1.out]
  have HB0 := Lib.hid hb0e
  obtain ⟨b, o, hAL, d0⟩ := HO8.out.ld HZ0.out
  obtain ⟨b', o', hAL', d1⟩ := HO8.out.ld HZ1.out
  subst hAL
  cases hAL'
  rw [Nat.add_zero] at d0
  clear hb0e
  obtain ⟨q0, hq0⟩ : ∃ q, bad0 zs = q := ⟨_, rfl⟩
  have HQ0 := Lib.hid hq0
  clear hq0
  -- too great: session, tick
  go_upto_region 19 with fail
  go_cut [16] from 79 to 88 (fun f wx => f = .bool q0 ∧ w8 = wx)
  case first =>
    by_cases hg1 : 1048576 < z0
    · have HD := Lib.hid (decide_eq_true hg1)
      go_wp2_with fail
      go_meet
      exact ⟨by rw [← HQ0.out, HB0.out, HD.out]; rfl, rfl⟩
    · have HD := Lib.hid (decide_eq_false hg1)
      by_cases hg2 : 1099511627776 < z1
      · have HD2 := Lib.hid (decide_eq_true hg2)
        go_wp2_with fail
        go_meet
        exact ⟨by rw [← HQ0.out, HB0.out, HD.out, HD2.out]; rfl, rfl⟩
      · have HD2 := Lib.hid (decide_eq_false hg2)
        go_wp2_with fail
        go_meet
        exact ⟨by rw [← HQ0.out, HB0.out, HD.out, HD2.out]; rfl, rfl⟩
  case rest =>
  obtain ⟨rfl, hwc⟩ := hcut
  subst hwc
  clear d0 d1
  obtain ⟨x1, hx1⟩ : ∃ x : Ev, (if q0 then { zeroE with ki := v1 } else { zeroE with ki := v1, se := zs.getD 0 0, ti := s.ti + zs.getD 1 0 }) = x := ⟨_, rfl⟩
  have HX1 := Lib.hid hx1
  clear hx1
  go_upto_if 90 with fail
  go_cut [] from 90 to 105 (fun wx => RTk w tp lv qa qb xb (some ⟨b, o, none⟩) zs x1 s.ts wx)
  case first =>
    by_cases hq : q0 = true
    · subst hq
      go_wp2_with fail
      go_meet
      rw [← HX1.out]
      exact ⟨HO8.out, HX8.out⟩
    · obtain rfl : q0 = false := by simpa using hq
      have hzz := HB0.out
      rw [HQ0.out] at hzz
      have hz3 := Bool.or_eq_false_iff.1 hzz.symm
      have hz4 : z0 ≤ 1048576 := by have := of_decide_eq_false hz3.1; omega
      have hz5 : z1 ≤ 1099511627776 := by have := of_decide_eq_false hz3.2; omega
      have ht0 := HT0.out
      have ht1 := HT1.out
      have hxe : x1 = { zeroE with ki := v1, se := z0, ti := s.ti + z1 } := by rw [← HX1.out, getD_of HZ0.out, getD_of HZ1.out]; rfl
      have HXE := Lib.hid hxe
      clear hq hzz hz3 hxe
      obtain ⟨t0, ht⟩ : ∃ t0, s.ti = t0 := ⟨_, rfl⟩
      rw [ht] at ht0 ht1 HXE
      have HTI := Lib.hid ht
      clear ht
      go_upto_region 21 with fail
      refine region_box0 xb 34 #[.int .i64 v1, .int .i64 0, .int .i64 0, .string noT, .string noT, .slice none 0 0, .string noT, .int .i64 0, .int .i64 0, .bool false, .string noT, .int .u64 0] [(14, 1, (.int .i64 z0)), (16, 2, (.int .i64 (t0 + z1)))] [] (RTx w tp lv qa qb xb (some ⟨b, o, none⟩) zs s.ts) (fun u u' h hg => h.keep hg) (fun u j x h => h.set j x) ⟨HO8.out, _, HX8.out⟩ HX8.out [[], [(0, 91)], [(1, 92)], [(2, 93)], [], [(4, 95)], [(5, 96)], [(6, 97)], [], [(8, 99)], [(9, 100)], [(10, 101)], [(7, 98), (11, 102)], [], [(3, 94), (13, 104)], [], [(12, 103), (15, 105)]] [(0, 91), (1, 92), (2, 93), (3, 94), (4, 95), (5, 96), (6, 97), (7, 98), (8, 99), (9, 100), (10, 101), (11, 102), (12, 103), (13, 104), (15, 105)] (fun
        | 0 => .eqv (.slice (some ⟨b, o, none⟩) many cL) | 1 => .eqv (.pointer (some ⟨b, o, none⟩)) | 2 => .eqv (.int .u64 z0) | 3 => .eqv (.int .i64 z0) | 4 => .eqv (.pointer (some ⟨p, 0, none⟩)) | 5 => .eqv (.pointer (some ⟨p, 0, none⟩)) | 6 => .eqv (.pointer (some ⟨p, 1, none⟩)) | 7 => .eqv (.int .i64 t0) | 8 => .eqv (.slice (some ⟨b, o, none⟩) many cL) | 9 => .eqv (.pointer (some ⟨b, o + 1, none⟩)) | 10 => .eqv (.int .u64 z1) | 11 => .eqv (.int .i64 z1) | 12 => .eqv (.int .i64 (t0 + z1)) | 13 => .eqv (.pointer (some ⟨xb, 1, none⟩)) | 14 => .cel 1 (.int .i64 z0) | 15 => .eqv (.pointer (some ⟨xb, 2, none⟩)) | 16 => .cel 2 (.int .i64 (t0 + z1)) | _ => .any) (by kernel_rfl) (by kernel_rfl) (by kernel_rfl) ?hlf ?hsteps ?hend
      case hlf => intro p hp v u h; simp only [List.mem_cons, List.not_mem_nil, or_false] at hp; rcases hp with rfl | rfl <;> exact h
      case hsteps =>
        refine ⟨fun u hu hx => ?_, fun u hu hx => ?_, fun u hu hx => ?_, fun u hu hx => ?_, fun u hu hx => ?_, fun u hu hx => ?_, fun u hu hx => ?_, fun u hu hx => ?_, fun u hu hx => ?_, fun u hu hx => ?_, fun u hu hx => ?_, fun u hu hx => ?_, fun u hu hx => ?_, fun u hu hx => ?_, fun u hu hx => ?_, fun u hu hx => ?_, fun u hu hx => ?_, trivial⟩
        · refine StepGoal.nil ?_
          go_wp2
          exact ⟨rfl, rfl, Grew.rf _, rfl⟩
        · rintro _ rfl
          refine StepGoal.nil ?_
          simp only [Act.put, List.setIfInBounds_toArray, List.set_cons_zero, List.set_cons_succ]
          go_wp2
          exact ⟨rfl, rfl, Grew.rf _, rfl⟩
        · rintro _ rfl
          obtain ⟨b', o', hA', hce⟩ := hu.1.ld HZ0.out; cases hA'; rw [Nat.add_zero] at hce
          refine StepGoal.nil ?_
          simp only [Act.put, List.setIfInBounds_toArray, List.set_cons_zero, List.set_cons_succ]
          go_wp2
          exact ⟨rfl, rfl, Grew.rf _, rfl⟩
        · rintro _ rfl
          refine StepGoal.nil ?_
          simp only [Act.put, List.setIfInBounds_toArray, List.set_cons_zero, List.set_cons_succ]
          go_wp2
          exact ⟨rfl, rfl, Grew.rf _, rfl⟩
        · refine StepGoal.nil ?_
          go_wp2
          exact ⟨rfl, rfl, Grew.rf _, rfl⟩
        · rintro _ rfl
          refine StepGoal.nil ?_
          simp only [Act.put, List.setIfInBounds_toArray, List.set_cons_zero, List.set_cons_succ]
          go_wp2
          exact ⟨rfl, rfl, Grew.rf _, rfl⟩
        · rintro _ rfl
          refine StepGoal.nil ?_
          simp only [Act.put, List.setIfInBounds_toArray, List.set_cons_zero, List.set_cons_succ]
          go_wp2
          exact ⟨rfl, rfl, Grew.rf _, rfl⟩
        · rintro _ rfl
          have hce : u.cell? ⟨p, 1, none⟩ = some (.int .i64 t0) := by { rw [← HTI.out]; exact cell_of_heap (hu.1.chg.by_ HCELLS.out HAP.out.2.1) rfl }
          refine StepGoal.nil ?_
          simp only [Act.put, List.setIfInBounds_toArray, List.set_cons_zero, List.set_cons_succ]
          go_wp2
          exact ⟨rfl, rfl, Grew.rf _, rfl⟩
        · refine StepGoal.nil ?_
          go_wp2
          exact ⟨rfl, rfl, Grew.rf _, rfl⟩
        · rintro _ rfl
          refine StepGoal.nil ?_
          simp only [Act.put, List.setIfInBounds_toArray, List.set_cons_zero, List.set_cons_succ]
          go_wp2
          exact ⟨rfl, rfl, Grew.rf _, rfl⟩
        · rintro _ rfl
          obtain ⟨b', o', hA', hce⟩ := hu.1.ld HZ1.out; cases hA'
          refine StepGoal.nil ?_
          simp only [Act.put, List.setIfInBounds_toArray, List.set_cons_zero, List.set_cons_succ]
          go_wp2
          exact ⟨rfl, rfl, Grew.rf _, rfl⟩
        · rintro _ rfl
          refine StepGoal.nil ?_
          simp only [Act.put, List.setIfInBounds_toArray, List.set_cons_zero, List.set_cons_succ]
          go_wp2
          exact ⟨rfl, rfl, Grew.rf _, rfl⟩
        · rintro _ rfl _ rfl
          refine StepGoal.nil ?_
          simp only [Act.put, List.setIfInBounds_toArray, List.set_cons_zero, List.set_cons_succ]
          go_wp2
          exact ⟨rfl, rfl, Grew.rf _, rfl⟩
        · refine StepGoal.nil ?_
          go_wp2
          exact ⟨rfl, rfl, Grew.rf _, rfl⟩
        · rintro _ rfl _ rfl
          obtain ⟨y, hy, hz⟩ := hx.1.some (j := 1) (by simp)
          refine StepGoal.nil ?_
          simp only [Act.put, List.setIfInBounds_toArray, List.set_cons_zero, List.set_cons_succ]
          go_wp2
          exact ⟨rfl, rfl, rfl, World.cell?_setCell_same _ _ _ hy⟩
        · refine StepGoal.nil ?_
          go_wp2
          exact ⟨rfl, rfl, Grew.rf _, rfl⟩
        · rintro _ rfl _ rfl
          obtain ⟨y, hy, hz⟩ := hx.1.some (j := 2) (by simp)
          refine StepGoal.nil ?_
          simp only [Act.put, List.setIfInBounds_toArray, List.set_cons_zero, List.set_cons_succ]
          go_wp2
          exact ⟨rfl, rfl, rfl, World.cell?_setCell_same _ _ _ hy⟩
      case hend =>
        intro u hu hbx hall
        rintro _ rfl _ rfl _ rfl _ rfl _ rfl _ rfl _ rfl _ rfl _ rfl _ rfl _ rfl _ rfl _ rfl _ rfl _ rfl
        refine StepGoal.nil ?_
        simp only [Act.put, List.setIfInBounds_toArray, List.set_cons_zero, List.set_cons_succ]
        have hbx2 : u.heap[xb]? = some (evO { zeroE with ki := v1, se := z0, ti := t0 + z1 } none 0 0) := by simpa [setAll] using hbx
        have HU := Lib.hid hu.1
        have HBX := Lib.hid hbx2
        clear hbx hbx2 hu hall
        go_wp2_with fail
        go_meet
        rw [HXE.out]
        exact ⟨HU.out, HBX.out⟩
  case rest =>
  obtain ⟨w9, hw9⟩ : ∃ w9, w9 = wc := ⟨_, rfl⟩
  subst hw9
  have hxk : x1.ki = v1 := by rw [← HX1.out]; split <;> rfl
  have HT9 := Lib.hid hcut
  have HXK := Lib.hid hxk
  clear hcut hxk HO8 HX8
  have c0 : w9.cell? ⟨xb, 0, none⟩ = some (.int .i64 v1) := by rw [← HXK.out]; exact cell_of_heap HT9.out.xbox rfl
  obtain ⟨q1, hq1⟩ : ∃ q, bad1 v1 zs = q := ⟨_, rfl⟩
  have HQ1 := Lib.hid hq1
  clear hq1
  -- too great: the others
  go_upto_block 2 with fail
  go_cut [16] from 106 to 133 (fun f wx => f = .bool q1 ∧ w9 = wx)
  case first =>
    by_cases hsp : v1 = 2 ∨ v1 = 5 ∨ v1 = 6
    · have hqq : q1 = q0 := by rw [← HQ1.out, ← HQ0.out]; rcases hsp with h | h | h <;> simp [bad1, h]
      have HQQ := Lib.hid hqq
      clear hqq
      go_wp2_with fail
      go_loop [16, 17] (fun s16 s17 => s16 = .bool q0 ∧ s17 = .int .i64 2) (fun _ _ => 0)
      case atStart => exact ⟨rfl, rfl⟩
      case round =>
        obtain ⟨rfl, rfl⟩ := hrel
        have h2m : (2 : Int) < (many : Int) ∨ ¬ ((2 : Int) < (many : Int)) := Classical.em _
        rcases hsp with h | h | h
        all_goals
          subst h
          rcases h2m with h2m | h2m
          all_goals
            go_wp2_with fail
            go_meet
            exact ⟨by rw [HQQ.out], rfl⟩
    · obtain ⟨hn2, hn5, hn6⟩ : ¬ (v1 = 2) ∧ ¬ (v1 = 5) ∧ ¬ (v1 = 6) := by omega
      have d2 : (v1 == 2) = false := by simpa using hn2
      have d5 : (v1 == 5) = false := by simpa using hn5
      have d6 : (v1 == 6) = false := by simpa using hn6
      have f2 : decide (v1 = 2) = false := decide_eq_false hn2
      have f5 : decide (v1 = 5) = false := decide_eq_false hn5
      have f6 : decide (v1 = 6) = false := decide_eq_false hn6
      have g2 : (v1 != 2) = true := by simpa using hn2
      have g5 : (v1 != 5) = true := by simpa using hn5
      have g6 : (v1 != 6) = true := by simpa using hn6
      have hqq : q1 = (q0 || ((zs.drop 2).take (many - 2)).any (fun z => decide (1048576 < z))) := by
        rw [← HQ1.out, ← HQ0.out, List.take_of_length_le (by rw [List.length_drop, HZL.out, HM.out]; exact Nat.le_refl _)]
        simp [bad1, f2, f5, f6]
      have HQQ := Lib.hid hqq
      clear hqq hsp hn2 hn5 hn6
      go_wp2_with fail
      go_loop [16, 17] (fun s16 s17 => ∃ j : Nat, s17 = .int .i64 (j : Int) ∧ 2 ≤ j ∧ j ≤ many ∧ s16 = .bool (q0 || ((zs.drop 2).take (j - 2)).any (fun z => decide (1048576 < z)))) (fun _ s17 => many - (intOf s17).toNat)
      case atStart => exact ⟨2, rfl, by omega, by omega, by simp⟩
      case round =>
        obtain ⟨j, rfl, hj2, hjm, rfl⟩ := hrel
        by_cases hlt : j < many
        · obtain ⟨z, hz⟩ : ∃ z, zs[j]? = some z := ⟨_, List.getElem?_eq_getElem (by rw [HZL.out, HM.out]; exact hlt)⟩
          have hst : ((zs.drop 2).take (j + 1 - 2)).any (fun z => decide (1048576 < z)) = (((zs.drop 2).take (j - 2)).any (fun z => decide (1048576 < z)) || decide (1048576 < z)) := by
            rw [show j + 1 - 2 = (j - 2) + 1 by omega, List.take_add_one, List.getElem?_drop, show 2 + (j - 2) = j by omega, hz]
            simp [List.any_append]
          have hzb := HZB.out z (List.mem_of_getElem? hz)
          obtain ⟨b', o', hA', dz⟩ := HT9.out.o.ld hz
          cases hA'
          have HST := Lib.hid hst
          clear hst hz
          obtain ⟨qq, hqj⟩ : ∃ q, ((zs.drop 2).take (j - 2)).any (fun z => decide (1048576 < z)) = q := ⟨_, rfl⟩
          rw [hqj] at HST ⊢
          clear hqj
          by_cases hq : (q0 || qq) = true
          · rw [hq]
            have HQJ := Lib.hid hq
            clear hq
            go_wp2_with fail
            go_round
            case rel => exact ⟨j + 1, by go_num, by omega, by omega, by rw [HST.out, ← Bool.or_assoc, HQJ.out]; rfl⟩
            case measure => simp [intOf]; omega
          · have hq : (q0 || qq) = false := by simpa using hq
            rw [hq]
            have HQJ := Lib.hid hq
            clear hq
            by_cases hbig : 1048576 < z
            · have HD := Lib.hid (decide_eq_true hbig)
              go_wp2_with fail
              go_round
              case rel => exact ⟨j + 1, by go_num, by omega, by omega, by rw [HST.out, ← Bool.or_assoc, HQJ.out, HD.out]; rfl⟩
              case measure => simp [intOf]; omega
            · have HD := Lib.hid (decide_eq_false hbig)
              go_wp2_with fail
              go_round
              case rel => exact ⟨j + 1, by go_num, by omega, by omega, by rw [HST.out, ← Bool.or_assoc, HQJ.out, HD.out]; rfl⟩
              case measure => simp [intOf]; omega
        · obtain rfl : j = many := by omega
          have HQQ2 := HQQ.out
          obtain ⟨qq, hqj⟩ : ∃ q, (q0 || ((zs.drop 2).take (j - 2)).any (fun z => decide (1048576 < z))) = q := ⟨_, rfl⟩
          rw [hqj] at HQQ2 ⊢
          subst HQQ2
          clear hqj
          go_wp2_with fail
          go_meet
          exact ⟨rfl, rfl⟩
  case rest =>
  obtain ⟨rfl, hwc⟩ := hcut
  subst hwc
  clear c0
  obtain ⟨x2, hx2⟩ : ∃ x, xRef s v1 zs = x := ⟨_, rfl⟩
  obtain ⟨q2, hq2⟩ : ∃ q, bad2 v1 zs = q := ⟨_, rfl⟩
  have HX2 := Lib.hid hx2
  have HQ2 := Lib.hid hq2
  clear hx2 hq2
  -- the fields
  go_upto_if 135 with fail
  go_cut [16] from 135 to 191 (fun f wx => f = .bool q2 ∧ RTk w tp lv qa qb xb (some ⟨b, o, none⟩) zs x2 s.ts wx)
  case first =>
    by_cases hq : q1 = true
    · subst hq
      have h2 : q2 = true := by rw [← HQ2.out]; simp [bad2, HQ1.out]
      have hxx : x2 = x1 := by
        rw [← HX2.out, ← HX1.out]
        unfold xRef
        rw [HQ1.out, HQ0.out]
        simp
      have H2 := Lib.hid h2
      have HXX := Lib.hid hxx
      clear h2 hxx
      go_wp2_with fail
      go_meet
      rw [HXX.out]
      exact ⟨by rw [H2.out], HT9.out⟩
    · obtain rfl : q1 = false := by simpa using hq
      have hb0 : bad0 zs = false := by have := HQ1.out; unfold bad1 at this; exact (Bool.or_eq_false_iff.1 this).1
      obtain rfl : q0 = false := HQ0.out.symm.trans hb0
      have hxr : xRef s v1 zs = (if v1 = 1 then { x1 with co := zs.getD 2 0 } else if v1 = 2 then { x1 with co := zs.getD 2 0 % 3, cr := decide (zs.getD 3 0 = 1), nn := zs.getD 4 0 } else if v1 = 3 then { x1 with st := zs.getD 2 0 } else if v1 = 5 ∨ v1 = 6 then { x1 with nn := zs.getD 2 0 } else if v1 = 7 then { x1 with co := zs.getD 2 0, st := zs.getD 3 0 } else x1) := by
        rw [← HX1.out]
        unfold xRef
        rw [HQ1.out, hb0]
        rfl
      rw [HX2.out] at hxr
      have hq2r : q2 = (decide (v1 = 2) && decide (2 < zs.getD 2 0)) := by rw [← HQ2.out]; unfold bad2; rw [HQ1.out]; rfl
      have HXR := Lib.hid hxr
      have HQR := Lib.hid hq2r
      have hx9 := HT9.out.xbox
      have c0 : w9.cell? ⟨xb, 0, none⟩ = some (.int .i64 v1) := by rw [← HXK.out]; exact cell_of_heap HT9.out.xbox rfl
      clear hq hb0 hxr hq2r
      rcases (by omega : v1 = 1 ∨ v1 = 2 ∨ v1 = 3 ∨ v1 = 4 ∨ v1 = 5 ∨ v1 = 6 ∨ v1 = 7) with rfl | rfl | rfl | rfl | rfl | rfl | rfl
      · have hmb : 3 ≤ many := by rw [← HM.out]; decide
        obtain ⟨z2, hz2⟩ : ∃ z, zs[2]? = some z := ⟨_, List.getElem?_eq_getElem (by rw [HZL.out]; decide)⟩
        have hzz2 := HZB.out z2 (List.mem_of_getElem? hz2)
        obtain ⟨b2, o2, hA2, dz2⟩ := HT9.out.o.ld hz2
        cases hA2
        have hle := bad1_le HQ1.out (by decide) (Nat.le_refl _) hz2
        have HZ2 := Lib.hid hz2
        clear hz2
        go_wp2_with ((with_reducible refine gate_st 3 (.tmp 144) (.tmp 143) rfl ?_); refine st_cell0 rfl rfl rfl rfl rfl rfl hx9 (by kernel_rfl) (by simp) ?_; intro W3 hW3 hby3)
        have hT3 : RTk w tp lv qa qb xb (some ⟨b, o, none⟩) zs { x1 with co := z2 } s.ts W3 := HT9.out.stored hby3 hW3
        have HT3 := Lib.hid hT3
        clear hT3 hW3 hby3
        go_meet
        exact ⟨by rw [HQR.out]; rfl, by rw [HXR.out, getD_of HZ2.out]; exact HT3.out⟩
      · have hmb : 5 ≤ many := by rw [← HM.out]; decide
        obtain ⟨z2, hz2⟩ : ∃ z, zs[2]? = some z := ⟨_, List.getElem?_eq_getElem (by rw [HZL.out]; decide)⟩
        have hzz2 := HZB.out z2 (List.mem_of_getElem? hz2)
        obtain ⟨b2, o2, hA2, dz2⟩ := HT9.out.o.ld hz2
        cases hA2
        obtain ⟨z3, hz3⟩ : ∃ z, zs[3]? = some z := ⟨_, List.getElem?_eq_getElem (by rw [HZL.out]; decide)⟩
        have hzz3 := HZB.out z3 (List.mem_of_getElem? hz3)
        obtain ⟨b3, o3, hA3, dz3⟩ := HT9.out.o.ld hz3
        cases hA3
        obtain ⟨z4, hz4⟩ : ∃ z, zs[4]? = some z := ⟨_, List.getElem?_eq_getElem (by rw [HZL.out]; decide)⟩
        have hzz4 := HZB.out z4 (List.mem_of_getElem? hz4)
        obtain ⟨b4, o4, hA4, dz4⟩ := HT9.out.o.ld hz4
        cases hA4
        have HZ2 := Lib.hid hz2
        have HZ3 := Lib.hid hz3
        have HZ4 := Lib.hid hz4
        clear hz2 hz3 hz4
        go_upto_region 32 with fail
        clear c0 dz2 dz3 dz4
        refine region_box0 xb 34 (evA x1 none 0 0) [(13, 8, (.int .i64 (z2 % 3))), (15, 9, (.bool (z3 == 1))), (17, 11, (.int .u64 z4))] [] (RTx w tp lv qa qb xb (some ⟨b, o, none⟩) zs s.ts) (fun u u' h hg => h.keep hg) (fun u j x h => h.set j x) ⟨HT9.out.o, _, HT9.out.xbox⟩ HT9.out.xbox [[], [(0, 151)], [(1, 152)], [(2, 153)], [(3, 154)], [], [(5, 156)], [(6, 157)], [(7, 158)], [], [(9, 160)], [(10, 161)], [], [(4, 155), (12, 163)], [], [(8, 159), (14, 164)], [], [(11, 162), (16, 165)]] [(0, 151), (1, 152), (2, 153), (3, 154), (4, 155), (5, 156), (6, 157), (7, 158), (8, 159), (9, 160), (10, 161), (11, 162), (12, 163), (14, 164), (16, 165)] (fun
          | 0 => .eqv (.slice (some ⟨b, o, none⟩) many cL) | 1 => .eqv (.pointer (some ⟨b, o + 2, none⟩)) | 2 => .eqv (.int .u64 z2) | 3 => .eqv (.int .u64 (z2 % 3)) | 4 => .eqv (.int .i64 (z2 % 3)) | 5 => .eqv (.slice (some ⟨b, o, none⟩) many cL) | 6 => .eqv (.pointer (some ⟨b, o + 3, none⟩)) | 7 => .eqv (.int .u64 z3) | 8 => .eqv (.bool (z3 == 1)) | 9 => .eqv (.slice (some ⟨b, o, none⟩) many cL) | 10 => .eqv (.pointer (some ⟨b, o + 4, none⟩)) | 11 => .eqv (.int .u64 z4) | 12 => .eqv (.pointer (some ⟨xb, 8, none⟩)) | 13 => .cel 8 (.int .i64 (z2 % 3)) | 14 => .eqv (.pointer (some ⟨xb, 9, none⟩)) | 15 => .cel 9 (.bool (z3 == 1)) | 16 => .eqv (.pointer (some ⟨xb, 11, none⟩)) | 17 => .cel 11 (.int .u64 z4) | _ => .any) (by kernel_rfl) (by kernel_rfl) (by kernel_rfl) ?hlf ?hsteps ?hend
        case hlf => intro p hp v u h; simp only [List.mem_cons, List.not_mem_nil, or_false] at hp; rcases hp with rfl | rfl | rfl <;> exact h
        case hsteps =>
          refine ⟨fun u hu hx => ?_, fun u hu hx => ?_, fun u hu hx => ?_, fun u hu hx => ?_, fun u hu hx => ?_, fun u hu hx => ?_, fun u hu hx => ?_, fun u hu hx => ?_, fun u hu hx => ?_, fun u hu hx => ?_, fun u hu hx => ?_, fun u hu hx => ?_, fun u hu hx => ?_, fun u hu hx => ?_, fun u hu hx => ?_, fun u hu hx => ?_, fun u hu hx => ?_, fun u hu hx => ?_, trivial⟩
          · refine StepGoal.nil ?_
            go_wp2
            exact ⟨rfl, rfl, Grew.rf _, rfl⟩
          · rintro _ rfl
            refine StepGoal.nil ?_
            simp only [Act.put, List.setIfInBounds_toArray, List.set_cons_zero, List.set_cons_succ]
            go_wp2
            exact ⟨rfl, rfl, Grew.rf _, rfl⟩
          · rintro _ rfl
            obtain ⟨b', o', hA', hce⟩ := hu.1.ld HZ2.out; cases hA'
            refine StepGoal.nil ?_
            simp only [Act.put, List.setIfInBounds_toArray, List.set_cons_zero, List.set_cons_succ]
            go_wp2
            exact ⟨rfl, rfl, Grew.rf _, rfl⟩
          · rintro _ rfl
            refine StepGoal.nil ?_
            simp only [Act.put, List.setIfInBounds_toArray, List.set_cons_zero, List.set_cons_succ]
            go_wp2
            exact ⟨rfl, rfl, Grew.rf _, rfl⟩
          · rintro _ rfl
            refine StepGoal.nil ?_
            simp only [Act.put, List.setIfInBounds_toArray, List.set_cons_zero, List.set_cons_succ]
            go_wp2
            exact ⟨rfl, rfl, Grew.rf _, rfl⟩
          · refine StepGoal.nil ?_
            go_wp2
            exact ⟨rfl, rfl, Grew.rf _, rfl⟩
          · rintro _ rfl
            refine StepGoal.nil ?_
            simp only [Act.put, List.setIfInBounds_toArray, List.set_cons_zero, List.set_cons_succ]
            go_wp2
            exact ⟨rfl, rfl, Grew.rf _, rfl⟩
          · rintro _ rfl
            obtain ⟨b', o', hA', hce⟩ := hu.1.ld HZ3.out; cases hA'
            refine StepGoal.nil ?_
            simp only [Act.put, List.setIfInBounds_toArray, List.set_cons_zero, List.set_cons_succ]
            go_wp2
            exact ⟨rfl, rfl, Grew.rf _, rfl⟩
          · rintro _ rfl
            refine StepGoal.nil ?_
            simp only [Act.put, List.setIfInBounds_toArray, List.set_cons_zero, List.set_cons_succ]
            go_wp2
            exact ⟨rfl, rfl, Grew.rf _, rfl⟩
          · refine StepGoal.nil ?_
            go_wp2
            exact ⟨rfl, rfl, Grew.rf _, rfl⟩
          · rintro _ rfl
            refine StepGoal.nil ?_
            simp only [Act.put, List.setIfInBounds_toArray, List.set_cons_zero, List.set_cons_succ]
            go_wp2
            exact ⟨rfl, rfl, Grew.rf _, rfl⟩
          · rintro _ rfl
            obtain ⟨b', o', hA', hce⟩ := hu.1.ld HZ4.out; cases hA'
            refine StepGoal.nil ?_
            simp only [Act.put, List.setIfInBounds_toArray, List.set_cons_zero, List.set_cons_succ]
            go_wp2
            exact ⟨rfl, rfl, Grew.rf _, rfl⟩
          · refine StepGoal.nil ?_
            go_wp2
            exact ⟨rfl, rfl, Grew.rf _, rfl⟩
          · rintro _ rfl _ rfl
            obtain ⟨y, hy, hz⟩ := hx.1.some (j := 8) (by simp)
            refine StepGoal.nil ?_
            simp only [Act.put, List.setIfInBounds_toArray, List.set_cons_zero, List.set_cons_succ]
            go_wp2
            exact ⟨rfl, rfl, rfl, World.cell?_setCell_same _ _ _ hy⟩
          · refine StepGoal.nil ?_
            go_wp2
            exact ⟨rfl, rfl, Grew.rf _, rfl⟩
          · rintro _ rfl _ rfl
            obtain ⟨y, hy, hz⟩ := hx.1.some (j := 9) (by simp)
            refine StepGoal.nil ?_
            simp only [Act.put, List.setIfInBounds_toArray, List.set_cons_zero, List.set_cons_succ]
            go_wp2
            exact ⟨rfl, rfl, rfl, World.cell?_setCell_same _ _ _ hy⟩
          · refine StepGoal.nil ?_
            go_wp2
            exact ⟨rfl, rfl, Grew.rf _, rfl⟩
          · rintro _ rfl _ rfl
            obtain ⟨y, hy, hz⟩ := hx.1.some (j := 11) (by simp)
            refine StepGoal.nil ?_
            simp only [Act.put, List.setIfInBounds_toArray, List.set_cons_zero, List.set_cons_succ]
            go_wp2
            exact ⟨rfl, rfl, rfl, World.cell?_setCell_same _ _ _ hy⟩
        case hend =>
          intro u hu hbx hall
          rintro _ rfl _ rfl _ rfl _ rfl _ rfl _ rfl _ rfl _ rfl _ rfl _ rfl _ rfl _ rfl _ rfl _ rfl _ rfl
          refine StepGoal.nil ?_
          simp only [Act.put, List.setIfInBounds_toArray, List.set_cons_zero, List.set_cons_succ]
          have hbx2 : u.heap[xb]? = some (evO { x1 with co := z2 % 3, cr := (z3 == 1), nn := z4 } none 0 0) := by simpa [setAll, evO, evA] using hbx
          have HU := Lib.hid hu.1
          have HBX := Lib.hid hbx2
          clear hbx hbx2 hu hall
          go_wp2_with fail
          go_meet
          exact ⟨by rw [HQR.out, getD_of HZ2.out]; rfl, by rw [HXR.out, getD_of HZ2.out, getD_of HZ3.out, getD_of HZ4.out]; exact ⟨HU.out, HBX.out⟩⟩
      · have hmb : 3 ≤ many := by rw [← HM.out]; decide
        obtain ⟨z2, hz2⟩ : ∃ z, zs[2]? = some z := ⟨_, List.getElem?_eq_getElem (by rw [HZL.out]; decide)⟩
        have hzz2 := HZB.out z2 (List.mem_of_getElem? hz2)
        obtain ⟨b2, o2, hA2, dz2⟩ := HT9.out.o.ld hz2
        cases hA2
        have hle := bad1_le HQ1.out (by decide) (Nat.le_refl _) hz2
        have HZ2 := Lib.hid hz2
        clear hz2
        go_wp2_with ((with_reducible refine gate_st 3 (.tmp 172) (.tmp 171) rfl ?_); refine st_cell0 rfl rfl rfl rfl rfl rfl hx9 (by kernel_rfl) (by simp) ?_; intro W3 hW3 hby3)
        have hT3 : RTk w tp lv qa qb xb (some ⟨b, o, none⟩) zs { x1 with st := z2 } s.ts W3 := HT9.out.stored hby3 hW3
        have HT3 := Lib.hid hT3
        clear hT3 hW3 hby3
        go_meet
        exact ⟨by rw [HQR.out]; rfl, by rw [HXR.out, getD_of HZ2.out]; exact HT3.out⟩
      · go_wp2_with fail
        go_meet
        exact ⟨by rw [HQR.out]; rfl, by rw [HXR.out]; exact HT9.out⟩
      · have hmb : 3 ≤ many := by rw [← HM.out]; decide
        obtain ⟨z2, hz2⟩ : ∃ z, zs[2]? = some z := ⟨_, List.getElem?_eq_getElem (by rw [HZL.out]; decide)⟩
        have hzz2 := HZB.out z2 (List.mem_of_getElem? hz2)
        obtain ⟨b2, o2, hA2, dz2⟩ := HT9.out.o.ld hz2
        cases hA2
        have HZ2 := Lib.hid hz2
        clear hz2
        go_wp2_with ((with_reducible refine gate_st 32 (.tmp 179) (.tmp 178) rfl ?_); refine st_cell0 rfl rfl rfl rfl rfl rfl hx9 (by kernel_rfl) (by simp) ?_; intro W3 hW3 hby3)
        have hT3 : RTk w tp lv qa qb xb (some ⟨b, o, none⟩) zs { x1 with nn := z2 } s.ts W3 := HT9.out.stored hby3 hW3
        have HT3 := Lib.hid hT3
        clear hT3 hW3 hby3
        go_meet
        exact ⟨by rw [HQR.out]; rfl, by rw [HXR.out, getD_of HZ2.out]; exact HT3.out⟩
      · have hmb : 3 ≤ many := by rw [← HM.out]; decide
        obtain ⟨z2, hz2⟩ : ∃ z, zs[2]? = some z := ⟨_, List.getElem?_eq_getElem (by rw [HZL.out]; decide)⟩
        have hzz2 := HZB.out z2 (List.mem_of_getElem? hz2)
        obtain ⟨b2, o2, hA2, dz2⟩ := HT9.out.o.ld hz2
        cases hA2
        have HZ2 := Lib.hid hz2
        clear hz2
        go_wp2_with ((with_reducible refine gate_st 32 (.tmp 179) (.tmp 178) rfl ?_); refine st_cell0 rfl rfl rfl rfl rfl rfl hx9 (by kernel_rfl) (by simp) ?_; intro W3 hW3 hby3)
        have hT3 : RTk w tp lv qa qb xb (some ⟨b, o, none⟩) zs { x1 with nn := z2 } s.ts W3 := HT9.out.stored hby3 hW3
        have HT3 := Lib.hid hT3
        clear hT3 hW3 hby3
        go_meet
        exact ⟨by rw [HQR.out]; rfl, by rw [HXR.out, getD_of HZ2.out]; exact HT3.out⟩
      · have hmb : 4 ≤ many := by rw [← HM.out]; decide
        obtain ⟨z2, hz2⟩ : ∃ z, zs[2]? = some z := ⟨_, List.getElem?_eq_getElem (by rw [HZL.out]; decide)⟩
        have hzz2 := HZB.out z2 (List.mem_of_getElem? hz2)
        obtain ⟨b2, o2, hA2, dz2⟩ := HT9.out.o.ld hz2
        cases hA2
        obtain ⟨z3, hz3⟩ : ∃ z, zs[3]? = some z := ⟨_, List.getElem?_eq_getElem (by rw [HZL.out]; decide)⟩
        have hzz3 := HZB.out z3 (List.mem_of_getElem? hz3)
        obtain ⟨b3, o3, hA3, dz3⟩ := HT9.out.o.ld hz3
        cases hA3
        have hle2 := bad1_le HQ1.out (by decide) (Nat.le_refl _) hz2
        have hle3 := bad1_le HQ1.out (by decide) (by decide) hz3
        have HZ2 := Lib.hid hz2
        have HZ3 := Lib.hid hz3
        clear hz2 hz3
        go_upto_region 39 with fail
        clear c0 dz2 dz3
        refine region_box0 xb 34 (evA x1 none 0 0) [(9, 8, (.int .i64 z2)), (11, 7, (.int .i64 z3))] [] (RTx w tp lv qa qb xb (some ⟨b, o, none⟩) zs s.ts) (fun u u' h hg => h.keep hg) (fun u j x h => h.set j x) ⟨HT9.out.o, _, HT9.out.xbox⟩ HT9.out.xbox [[], [(0, 182)], [(1, 183)], [(2, 184)], [], [(4, 186)], [(5, 187)], [(6, 188)], [], [(3, 185), (8, 190)], [], [(7, 189), (10, 191)]] [(0, 182), (1, 183), (2, 184), (3, 185), (4, 186), (5, 187), (6, 188), (7, 189), (8, 190), (10, 191)] (fun
          | 0 => .eqv (.slice (some ⟨b, o, none⟩) many cL) | 1 => .eqv (.pointer (some ⟨b, o + 2, none⟩)) | 2 => .eqv (.int .u64 z2) | 3 => .eqv (.int .i64 z2) | 4 => .eqv (.slice (some ⟨b, o, none⟩) many cL) | 5 => .eqv (.pointer (some ⟨b, o + 3, none⟩)) | 6 => .eqv (.int .u64 z3) | 7 => .eqv (.int .i64 z3) | 8 => .eqv (.pointer (some ⟨xb, 8, none⟩)) | 9 => .cel 8 (.int .i64 z2) | 10 => .eqv (.pointer (some ⟨xb, 7, none⟩)) | 11 => .cel 7 (.int .i64 z3) | _ => .any) (by kernel_rfl) (by kernel_rfl) (by kernel_rfl) ?hlf ?hsteps ?hend
        case hlf => intro p hp v u h; simp only [List.mem_cons, List.not_mem_nil, or_false] at hp; rcases hp with rfl | rfl <;> exact h
        case hsteps =>
          refine ⟨fun u hu hx => ?_, fun u hu hx => ?_, fun u hu hx => ?_, fun u hu hx => ?_, fun u hu hx => ?_, fun u hu hx => ?_, fun u hu hx => ?_, fun u hu hx => ?_, fun u hu hx => ?_, fun u hu hx => ?_, fun u hu hx => ?_, fun u hu hx => ?_, trivial⟩
          · refine StepGoal.nil ?_
            go_wp2
            exact ⟨rfl, rfl, Grew.rf _, rfl⟩
          · rintro _ rfl
            refine StepGoal.nil ?_
            simp only [Act.put, List.setIfInBounds_toArray, List.set_cons_zero, List.set_cons_succ]
            go_wp2
            exact ⟨rfl, rfl, Grew.rf _, rfl⟩
          · rintro _ rfl
            obtain ⟨b', o', hA', hce⟩ := hu.1.ld HZ2.out; cases hA'
            refine StepGoal.nil ?_
            simp only [Act.put, List.setIfInBounds_toArray, List.set_cons_zero, List.set_cons_succ]
            go_wp2
            exact ⟨rfl, rfl, Grew.rf _, rfl⟩
          · rintro _ rfl
            refine StepGoal.nil ?_
            simp only [Act.put, List.setIfInBounds_toArray, List.set_cons_zero, List.set_cons_succ]
            go_wp2
            exact ⟨rfl, rfl, Grew.rf _, rfl⟩
          · refine StepGoal.nil ?_
            go_wp2
            exact ⟨rfl, rfl, Grew.rf _, rfl⟩
          · rintro _ rfl
            refine StepGoal.nil ?_
            simp only [Act.put, List.setIfInBounds_toArray, List.set_cons_zero, List.set_cons_succ]
            go_wp2
            exact ⟨rfl, rfl, Grew.rf _, rfl⟩
          · rintro _ rfl
            obtain ⟨b', o', hA', hce⟩ := hu.1.ld HZ3.out; cases hA'
            refine StepGoal.nil ?_
            simp only [Act.put, List.setIfInBounds_toArray, List.set_cons_zero, List.set_cons_succ]
            go_wp2
            exact ⟨rfl, rfl, Grew.rf _, rfl⟩
          · rintro _ rfl
            refine StepGoal.nil ?_
            simp only [Act.put, List.setIfInBounds_toArray, List.set_cons_zero, List.set_cons_succ]
            go_wp2
            exact ⟨rfl, rfl, Grew.rf _, rfl⟩
          · refine StepGoal.nil ?_
            go_wp2
            exact ⟨rfl, rfl, Grew.rf _, rfl⟩
          · rintro _ rfl _ rfl
            obtain ⟨y, hy, hz⟩ := hx.1.some (j := 8) (by simp)
            refine StepGoal.nil ?_
            simp only [Act.put, List.setIfInBounds_toArray, List.set_cons_zero, List.set_cons_succ]
            go_wp2
            exact ⟨rfl, rfl, rfl, World.cell?_setCell_same _ _ _ hy⟩
          · refine StepGoal.nil ?_
            go_wp2
            exact ⟨rfl, rfl, Grew.rf _, rfl⟩
          · rintro _ rfl _ rfl
            obtain ⟨y, hy, hz⟩ := hx.1.some (j := 7) (by simp)
            refine StepGoal.nil ?_
            simp only [Act.put, List.setIfInBounds_toArray, List.set_cons_zero, List.set_cons_succ]
            go_wp2
            exact ⟨rfl, rfl, rfl, World.cell?_setCell_same _ _ _ hy⟩
        case hend =>
          intro u hu hbx hall
          rintro _ rfl _ rfl _ rfl _ rfl _ rfl _ rfl _ rfl _ rfl _ rfl _ rfl
          refine StepGoal.nil ?_
          simp only [Act.put, List.setIfInBounds_toArray, List.set_cons_zero, List.set_cons_succ]
          have hbx2 : u.heap[xb]? = some (evO { x1 with co := z2, st := z3 } none 0 0) := by simpa [setAll, evO, evA] using hbx
          have HU := Lib.hid hu.1
          have HBX := Lib.hid hbx2
          clear hbx hbx2 hu hall
          go_wp2_with fail
          go_meet
          exact ⟨by rw [HQR.out]; rfl, by rw [HXR.out, getD_of HZ2.out, getD_of HZ3.out]; exact ⟨HU.out, HBX.out⟩⟩
  case rest =>
  obtain ⟨rfl, hT10⟩ := hcut
  obtain ⟨w10, hw10⟩ : ∃ w9, w9 = wc := ⟨_, rfl⟩
  subst hw10
  have hxt := xRef_tx s v1 zs
  rw [HX2.out] at hxt
  obtain ⟨hxk, hxur, hxno, hxbo, hxhs⟩ := hxt
  have HXK2 := Lib.hid hxk
  have HXUR := Lib.hid hxur
  have HXNO := Lib.hid hxno
  have HXBO := Lib.hid hxbo
  have HXHS := Lib.hid hxhs
  have HT10 := Lib.hid hT10
  have htx := fun (u : World) (l : Value) (ts : List ByteArray) (a : Int) (hT : RefI u tp l ts) (hr : Rd u A n bs) (hf : ts.length < 1000000) (h0 : -9223372036854775808 ≤ a) (h1 : a ≤ 9223372036854775807) => rtake19_any tp l ts A n c bs a u hT hr HBYT.out hnc hc (by omega) hf h0 h1
  have hrd := fun (u : World) (hc : Chg (ftr tp lv) w u) => (HRB.out.chg hc (fun h0 ad e h => HAF.out h0 ad e (.inr (.inl h))) : Rd u A n bs)
  have hpc := fun (u : World) (hc : Chg (ftr tp lv) w u) => (cell_of_heap (hc.by_ HCELLS.out HAP.out.2.1) rfl : u.cell? ⟨p, 0, none⟩ = some (.pointer (some ⟨tp, 0, none⟩)))
  have HTX := Lib.hid htx
  have HRD := Lib.hid hrd
  have HPC := Lib.hid hpc
  have hf60 := HFEW.out
  clear hxk hxur hxno hxbo hxhs hT10 htx hrd hpc HT9 HXK HX1 HQ1 HQ0 HB0
  -- the texts

  go_upto_region 40 with fail
  go_cut [194] from 192 to 194 (fun f wx => f = .bool (decide (v1 ≤ 2)) ∧ w10 = wx)
  case first =>
    have c0 : w10.cell? ⟨xb, 0, none⟩ = some (.int .i64 v1) := by rw [← HXK2.out]; exact cell_of_heap HT10.out.xbox rfl
    by_cases hc2 : v1 ≤ 2
    · have HC := Lib.hid (decide_eq_true hc2)
      go_wp2_with fail
      go_meet
      exact ⟨by rw [HC.out], rfl⟩
    · have HC := Lib.hid (decide_eq_false hc2)
      have hgt : 2 < v1 := by omega
      clear hc2
      go_wp2_with fail
      go_meet
      exact ⟨by rw [HC.out], rfl⟩
  case rest =>
  obtain ⟨rfl, hwc⟩ := hcut
  subst hwc
  go_upto_if 194 with fail

  have hw1b := wordsR_bd2 HBYT.out HBL.out (if v1 ≤ 2 then [3, 4] else []) x2 a 0 s.ts (by omega) (by omega)
  have hw1l : (if v1 ≤ 2 then [3, 4] else [] : List Nat).length ≤ 2 := by split <;> simp
  have hw1n : (wordsR bs (if v1 ≤ 2 then [3, 4] else []) x2 a 0 s.ts).1.ki = v1 ∧ (wordsR bs (if v1 ≤ 2 then [3, 4] else []) x2 a 0 s.ts).1.no = noT ∧ (wordsR bs (if v1 ≤ 2 then [3, 4] else []) x2 a 0 s.ts).1.bo = noT := by
    split <;> simp [wordsR, setT, HXNO.out, HXBO.out, HXK2.out]
  obtain ⟨⟨y1, ay1, e1', ts1⟩, hw1⟩ : ∃ q, wordsR bs (if v1 ≤ 2 then [3, 4] else []) x2 a 0 s.ts = q := ⟨_, rfl⟩
  rw [hw1] at hw1b hw1n
  dsimp only at hw1b hw1n
  have HW1 := Lib.hid hw1
  have HW1N := Lib.hid hw1n
  clear hw1 hw1n
  go_cut [2, 11] from 194 to 220 (fun s2 s11 wx => s2 = .int .i64 ay1 ∧ s11 = .int .i64 e1' ∧ RTk w tp lv qa qb xb (some ⟨b, o, none⟩) zs y1 ts1 wx)
  case first =>
    by_cases hc2 : v1 ≤ 2
    · rw [decide_eq_true hc2]
      have hw := HW1.out
      rw [if_pos hc2] at hw
      obtain ⟨⟨t1, a2, e2, ts2⟩, hk2⟩ : ∃ q, takeT s.ts bs a = q := ⟨_, rfl⟩
      have hbx := textR_bd HBYT.out HBL.out s.ts 0 (show -9223372036854775808 ≤ a by omega) (by omega)
      have htr : textR s.ts bs a 0 = (t1, a2, e2, ts2) := by unfold textR; rw [if_pos rfl, hk2]
      rw [htr] at hbx
      dsimp only at hbx
      obtain ⟨l0, hl0, hf0⟩ := HT10.out.o.tab
      have hcc := HTX.out w10 l0 s.ts a hl0 (HRD.out _ HT10.out.o.chg) (by omega) (by omega) (by omega)
      rw [hk2] at hcc
      dsimp only at hcc
      have cp := HPC.out _ HT10.out.o.chg
      have H1C := Lib.hid hcc
      have HL0 := Lib.hid hl0
      have HF0 := Lib.hid hf0
      by_cases he : e2 = 0
      · subst he
        obtain ⟨⟨t2, a3, e3, ts3⟩, hk3⟩ : ∃ q, takeT ts2 bs a2 = q := ⟨_, rfl⟩
        have hcd := fun (u : World) (l : Value) (hT : RefI u tp l ts2) (hr : Rd u A n bs) => HTX.out u l ts2 a2 hT hr (by omega) (by omega) (by omega)
        rw [hk3] at hcd
        dsimp only at hcd
        have H2C := Lib.hid hcd
        have hwe : (y1, ay1, e1', ts1) = ({ x2 with me := t1, ur := t2 }, a3, e3, ts3) := by
          rw [← hw]
          simp [wordsR, textR, hk2, hk3, setT]
        simp only [Prod.mk.injEq] at hwe
        obtain ⟨rfl, rfl, rfl, rfl⟩ := hwe
        clear hk2 hk3 htr hcc hcd hl0 hf0 hw hc2
        go_wp2_with (first | (have hh := hT12; go_at_call 28; refine Calls.mono (H2C.out _ l12 hl12 (HRD.out _ hT12.o.chg)) ?_; rintro e w13 ⟨rfl, hQ13⟩; have hT13 := hT12.text hl12 hf12 hQ13; have hx13 := hT13.xbox) | (go_at_call 28; refine Calls.mono (H1C.out) ?_; rintro e w11 ⟨rfl, hQ11⟩; have hT11 := HT10.out.text HL0.out HF0.out hQ11; have hx11 := hT11.xbox) | (((with_reducible refine gate_st 9 (.tmp 206) (.tmp 203) rfl ?_); refine st_cell0 rfl rfl rfl rfl rfl rfl hx11 (by kernel_rfl) (by simp) ?_; intro W12 hW12 hby12); have hT12 : RTk w tp lv qa qb xb (some ⟨b, o, none⟩) zs { x2 with me := t1 } ts2 W12 := hT11.stored hby12 hW12; obtain ⟨l12, hl12, hf12⟩ := hT12.o.tab; have cp12 := HPC.out _ hT12.o.chg) | (((with_reducible refine gate_st 9 (.tmp 220) (.tmp 217) rfl ?_); refine st_cell0 rfl rfl rfl rfl rfl rfl hx13 (by kernel_rfl) (by simp) ?_; intro W14 hW14 hby14)))
        have hT14 : RTk w tp lv qa qb xb (some ⟨b, o, none⟩) zs { x2 with me := t1, ur := t2 } ts1 W14 := hT13.stored hby14 hW14
        go_meet
        exact ⟨rfl, rfl, hT14⟩
      · have hwe : (y1, ay1, e1', ts1) = ({ x2 with me := t1 }, a2, e2, ts2) := by
          rw [← hw]
          have hur := HXUR.out
          simp [wordsR, textR, hk2, he, setT]
          rw [noT_empty, ← hur]
        simp only [Prod.mk.injEq] at hwe
        obtain ⟨rfl, rfl, rfl, rfl⟩ := hwe
        have d1 : (e1' == 0) = false := by simpa using he
        have dd1 : decide (e1' = 0) = false := by simpa using he
        clear hk2 htr hcc hl0 hf0 hw hc2 he
        go_wp2_with (first | (go_at_call 28; refine Calls.mono (H1C.out) ?_; rintro e w11 ⟨rfl, hQ11⟩; have hT11 := HT10.out.text HL0.out HF0.out hQ11; have hx11 := hT11.xbox) | ((with_reducible refine gate_st 9 (.tmp 206) (.tmp 203) rfl ?_); refine st_cell0 rfl rfl rfl rfl rfl rfl hx11 (by kernel_rfl) (by simp) ?_; intro W12 hW12 hby12))
        have hT12 : RTk w tp lv qa qb xb (some ⟨b, o, none⟩) zs { x2 with me := t1 } ts1 W12 := hT11.stored hby12 hW12
        go_meet
        exact ⟨rfl, rfl, hT12⟩
    · rw [decide_eq_false hc2]
      have hwe := HW1.out
      rw [if_neg hc2] at hwe
      simp only [wordsR, Prod.mk.injEq] at hwe
      obtain ⟨rfl, rfl, rfl, rfl⟩ := hwe
      clear hc2
      go_wp2_with fail
      go_meet
      exact ⟨rfl, rfl, HT10.out⟩
  case rest =>
  obtain ⟨rfl, rfl, hT11⟩ := hcut
  obtain ⟨w11, hw11⟩ : ∃ w9, w9 = wc := ⟨_, rfl⟩
  subst hw11
  have HT11 := Lib.hid hT11
  clear hT11 HT10

  go_upto_region 44 with fail
  go_cut [227] from 221 to 227 (fun f wx => f = .bool (decide (e1' = 0 ∧ v1 = 1)) ∧ w11 = wx)
  case first =>
    have c0 : w11.cell? ⟨xb, 0, none⟩ = some (.int .i64 v1) := by rw [← HW1N.out.1]; exact cell_of_heap HT11.out.xbox rfl
    by_cases he : e1' = 0
    · have d1 : (e1' == 0) = true := by simpa using he
      have dd1 : decide (e1' = 0) = true := by simpa using he
      by_cases hc2 : v1 = 1
      · have HC := Lib.hid (decide_eq_true (p := e1' = 0 ∧ v1 = 1) ⟨he, hc2⟩)
        have k1 : (v1 == 1) = true := by simpa using hc2
        have kk1 : decide (v1 = 1) = true := by simpa using hc2
        clear he hc2
        go_wp2_with fail
        go_meet
        exact ⟨by rw [HC.out], rfl⟩
      · have HC := Lib.hid (decide_eq_false (p := e1' = 0 ∧ v1 = 1) (fun h => hc2 h.2))
        have k1 : (v1 == 1) = false := by simpa using hc2
        have kk1 : decide (v1 = 1) = false := by simpa using hc2
        clear he hc2
        go_wp2_with fail
        go_meet
        exact ⟨by rw [HC.out], rfl⟩
    · have d1 : (e1' == 0) = false := by simpa using he
      have dd1 : decide (e1' = 0) = false := by simpa using he
      have HC := Lib.hid (decide_eq_false (p := e1' = 0 ∧ v1 = 1) (fun h => he h.1))
      clear he
      go_wp2_with fail
      go_meet
      exact ⟨by rw [HC.out], rfl⟩
  case rest =>
  obtain ⟨rfl, hwc⟩ := hcut
  subst hwc
  go_upto_if 227 with fail

  have hwb := wordsR_bd2 HBYT.out HBL.out (if v1 = 1 then [10] else []) y1 ay1 e1' ts1 (by omega) (by omega)
  have hwl : ((if v1 = 1 then [10] else []) : List Nat).length ≤ 1 := by split <;> simp
  have hwn : (wordsR bs (if v1 = 1 then [10] else []) y1 ay1 e1' ts1).1.ki = v1 ∧ (wordsR bs (if v1 = 1 then [10] else []) y1 ay1 e1' ts1).1.bo = noT := by
    split <;> simp [wordsR, setT, HW1N.out]
  obtain ⟨⟨y2, ay2, e2', ts2⟩, hw2⟩ : ∃ q, wordsR bs (if v1 = 1 then [10] else []) y1 ay1 e1' ts1 = q := ⟨_, rfl⟩
  rw [hw2] at hwb hwn
  dsimp only at hwb hwn
  have hw2b := hwb
  have hts2 : ts2.length ≤ 60 * k + 3 := by omega
  have HW2 := Lib.hid hw2
  have HW2N := Lib.hid hwn
  clear hw2 hwn hwb hwl
  go_cut [2, 11] from 227 to 239 (fun s2 s11 wx => s2 = .int .i64 ay2 ∧ s11 = .int .i64 e2' ∧ RTk w tp lv qa qb xb (some ⟨b, o, none⟩) zs y2 ts2 wx)
  case first =>
    by_cases hc2 : e1' = 0 ∧ v1 = 1
    · rw [decide_eq_true hc2]
      obtain ⟨he, hc2⟩ := hc2
      subst he
      have hw := HW2.out
      rw [if_pos hc2] at hw
      obtain ⟨⟨t1, a2, e2, ts2'⟩, hk2⟩ : ∃ q, takeT ts1 bs ay1 = q := ⟨_, rfl⟩
      obtain ⟨l0, hl0, hf0⟩ := HT11.out.o.tab
      have hcc := HTX.out w11 l0 ts1 ay1 hl0 (HRD.out _ HT11.out.o.chg) (by omega) (by omega) (by omega)
      rw [hk2] at hcc
      dsimp only at hcc
      have cp := HPC.out _ HT11.out.o.chg
      have H1C := Lib.hid hcc
      have HL0 := Lib.hid hl0
      have HF0 := Lib.hid hf0
      have hwe : (y2, ay2, e2', ts2) = ({ y1 with no := t1 }, a2, e2, ts2') := by
        rw [← hw]
        simp [wordsR, textR, hk2, setT]
      simp only [Prod.mk.injEq] at hwe
      obtain ⟨rfl, rfl, rfl, rfl⟩ := hwe
      clear hk2 hcc hl0 hf0 hw hc2
      go_wp2_with (first | (go_at_call 28; refine Calls.mono (H1C.out) ?_; rintro e wz ⟨rfl, hQz⟩; have hTz := HT11.out.text HL0.out HF0.out hQz; have hxz := hTz.xbox) | ((with_reducible refine gate_st 9 (.tmp 239) (.tmp 236) rfl ?_); refine st_cell0 rfl rfl rfl rfl rfl rfl hxz (by kernel_rfl) (by simp) ?_; intro Wy hWy hbyy))
      have hTy : RTk w tp lv qa qb xb (some ⟨b, o, none⟩) zs { y1 with no := t1 } ts2 Wy := hTz.stored hbyy hWy
      go_meet
      exact ⟨rfl, rfl, hTy⟩
    · rw [decide_eq_false hc2]
      have hwe : (y2, ay2, e2', ts2) = (y1, ay1, e1', ts1) := by
        rw [← HW2.out]
        by_cases hcc : v1 = 1
        · have he : e1' ≠ 0 := fun h => hc2 ⟨h, hcc⟩
          have hno := HW1N.out.2.1
          rw [if_pos hcc]
          simp [wordsR, textR, he, setT]
          rw [noT_empty, ← hno]
        · rw [if_neg hcc]
          rfl
      simp only [Prod.mk.injEq] at hwe
      obtain ⟨rfl, rfl, rfl, rfl⟩ := hwe
      clear hc2
      go_wp2_with fail
      go_meet
      exact ⟨rfl, rfl, HT11.out⟩
  case rest =>
  obtain ⟨rfl, rfl, hT12⟩ := hcut
  obtain ⟨w12, hw12⟩ : ∃ w9, w9 = wc := ⟨_, rfl⟩
  subst hw12
  have HT12 := Lib.hid hT12
  clear hT12 HT11

  go_upto_region 46 with fail
  go_cut [246] from 240 to 246 (fun f wx => f = .bool (decide (e2' = 0 ∧ v1 ≤ 3)) ∧ w12 = wx)
  case first =>
    have c0 : w12.cell? ⟨xb, 0, none⟩ = some (.int .i64 v1) := by rw [← HW2N.out.1]; exact cell_of_heap HT12.out.xbox rfl
    by_cases he : e2' = 0
    · have d1 : (e2' == 0) = true := by simpa using he
      have dd1 : decide (e2' = 0) = true := by simpa using he
      by_cases hc2 : v1 ≤ 3
      · have HC := Lib.hid (decide_eq_true (p := e2' = 0 ∧ v1 ≤ 3) ⟨he, hc2⟩)
        clear he 
        go_wp2_with fail
        go_meet
        exact ⟨by rw [HC.out], rfl⟩
      · have HC := Lib.hid (decide_eq_false (p := e2' = 0 ∧ v1 ≤ 3) (fun h => hc2 h.2))
        have hgt : 3 < v1 := by omega
        have HLE := Lib.hid (decide_eq_false hc2)
        clear he hc2
        go_wp2_with fail
        go_meet
        exact ⟨by rw [HC.out, HLE.out], rfl⟩
    · have d1 : (e2' == 0) = false := by simpa using he
      have dd1 : decide (e2' = 0) = false := by simpa using he
      have HC := Lib.hid (decide_eq_false (p := e2' = 0 ∧ v1 ≤ 3) (fun h => he h.1))
      clear he
      go_wp2_with fail
      go_meet
      exact ⟨by rw [HC.out], rfl⟩
  case rest =>
  obtain ⟨rfl, hwc⟩ := hcut
  subst hwc
  go_upto_if 246 with fail

  have hwb := wordsR_bd2 HBYT.out HBL.out (if v1 ≤ 3 then [6] else []) y2 ay2 e2' ts2 (by omega) (by omega)
  have hwl : ((if v1 ≤ 3 then [6] else []) : List Nat).length ≤ 1 := by split <;> simp
  have hwn : (wordsR bs (if v1 ≤ 3 then [6] else []) y2 ay2 e2' ts2).1.ki = v1  := by
    split <;> simp [wordsR, setT, HW2N.out]
  obtain ⟨⟨y3, ay3, e3', ts3⟩, hw3⟩ : ∃ q, wordsR bs (if v1 ≤ 3 then [6] else []) y2 ay2 e2' ts2 = q := ⟨_, rfl⟩
  rw [hw3] at hwb hwn
  dsimp only at hwb hwn
  have hw3b := hwb
  have hts3 : ts3.length ≤ 60 * k + 4 := by omega
  have HW3 := Lib.hid hw3
  have HW3N := Lib.hid hwn
  clear hw3 hwn hwb hwl
  go_cut [2, 11] from 246 to 258 (fun s2 s11 wx => s2 = .int .i64 ay3 ∧ s11 = .int .i64 e3' ∧ RTk w tp lv qa qb xb (some ⟨b, o, none⟩) zs y3 ts3 wx)
  case first =>
    by_cases hc2 : e2' = 0 ∧ v1 ≤ 3
    · rw [decide_eq_true hc2]
      obtain ⟨he, hc2⟩ := hc2
      subst he
      have hw := HW3.out
      rw [if_pos hc2] at hw
      obtain ⟨⟨t1, a2, e2, ts2'⟩, hk2⟩ : ∃ q, takeT ts2 bs ay2 = q := ⟨_, rfl⟩
      obtain ⟨l0, hl0, hf0⟩ := HT12.out.o.tab
      have hcc := HTX.out w12 l0 ts2 ay2 hl0 (HRD.out _ HT12.out.o.chg) (by omega) (by omega) (by omega)
      rw [hk2] at hcc
      dsimp only at hcc
      have cp := HPC.out _ HT12.out.o.chg
      have H1C := Lib.hid hcc
      have HL0 := Lib.hid hl0
      have HF0 := Lib.hid hf0
      have hwe : (y3, ay3, e3', ts3) = ({ y2 with bo := t1 }, a2, e2, ts2') := by
        rw [← hw]
        simp [wordsR, textR, hk2, setT]
      simp only [Prod.mk.injEq] at hwe
      obtain ⟨rfl, rfl, rfl, rfl⟩ := hwe
      clear hk2 hcc hl0 hf0 hw hc2
      go_wp2_with (first | (go_at_call 28; refine Calls.mono (H1C.out) ?_; rintro e wz ⟨rfl, hQz⟩; have hTz := HT12.out.text HL0.out HF0.out hQz; have hxz := hTz.xbox) | ((with_reducible refine gate_st 9 (.tmp 258) (.tmp 255) rfl ?_); refine st_cell0 rfl rfl rfl rfl rfl rfl hxz (by kernel_rfl) (by simp) ?_; intro Wy hWy hbyy))
      have hTy : RTk w tp lv qa qb xb (some ⟨b, o, none⟩) zs { y2 with bo := t1 } ts3 Wy := hTz.stored hbyy hWy
      go_meet
      exact ⟨rfl, rfl, hTy⟩
    · rw [decide_eq_false hc2]
      have hwe : (y3, ay3, e3', ts3) = (y2, ay2, e2', ts2) := by
        rw [← HW3.out]
        by_cases hcc : v1 ≤ 3
        · have he : e2' ≠ 0 := fun h => hc2 ⟨h, hcc⟩
          have hno := HW2N.out.2
          rw [if_pos hcc]
          simp [wordsR, textR, he, setT]
          rw [noT_empty, ← hno]
        · rw [if_neg hcc]
          rfl
      simp only [Prod.mk.injEq] at hwe
      obtain ⟨rfl, rfl, rfl, rfl⟩ := hwe
      clear hc2
      go_wp2_with fail
      go_meet
      exact ⟨rfl, rfl, HT12.out⟩
  case rest =>
  obtain ⟨rfl, rfl, hT13⟩ := hcut
  obtain ⟨w13, hw13⟩ : ∃ w9, w9 = wc := ⟨_, rfl⟩
  subst hw13
  have HT13 := Lib.hid hT13
  clear hT13 HT12
  -- all that is told, in plain words
  have hcut3 : wordsR bs (worF v1) x2 a 0 s.ts = (y3, ay3, e3', ts3) := by
    rw [worF_eq ⟨hk1, hk7⟩, wordsR_app, wordsR_app, HW1.out]
    dsimp only
    rw [HW2.out]
    dsimp only
    exact HW3.out
  have hZ : takeB s bs at_ = refH s bs v1 zs y3 ay3 e3' ts3 := by
    rw [takeB_full HR1.out ⟨hk1, hk7⟩ (by rw [HM.out]; exact HN.out) HC.out, ← ref_eq ⟨hk1, hk7⟩ HZL.out (fun z hz => (HZB.out z hz).1) HLOK.out HT0.out HT1.out, HX2.out, hcut3]
  have hsm3 := wordsR_same bs (worF v1) x2 a 0 s.ts
  rw [hcut3] at hsm3
  dsimp only at hsm3
  have hy3k : y3.ki = v1 := hsm3.ki.trans HXK2.out
  have hco3 := xRef_co s (ki := v1) (fun z hz => (HZB.out z hz).1)
  rw [HX2.out, ← hsm3.co] at hco3
  have HCO3 := Lib.hid hco3
  clear hco3
  have hy3h : y3.hs = [] := hsm3.hs.trans HXHS.out
  have HZ := Lib.hid hZ
  have HY3K := Lib.hid hy3k
  have HY3H := Lib.hid hy3h
  obtain ⟨b3, hb3⟩ : ∃ b3, decide (v1 = 3) = b3 := ⟨_, rfl⟩
  have hkb : (v1 == 3) = b3 := by rw [← hb3]; rfl
  have hwas0 : wasR s v1 zs = (if z0 ≤ 1048576 then s.L z0 b3 else []) := by unfold wasR; rw [getD_of HZ0.out, hb3]
  have HWAS := Lib.hid hwas0
  obtain ⟨⟨hl, ah, eh, tsh⟩, hh⟩ : ∃ h, (if isL v1 then headR ts3 bs ay3 e3' (wasR s v1 zs) else ([], ay3, e3', ts3)) = h := ⟨_, rfl⟩
  have hhb : -9223372036854775808 ≤ ah ∧ ah ≤ 9223372036854775807 ∧ tsh.length ≤ ts3.length + 50 ∧ hl.length ≤ 25 := by
    have h1 := headR_bd HBYT.out HBL.out ts3 e3' (wasR s v1 zs) hw3b.1 hw3b.2.1
    have h2 := headR_25 HBYT.out ts3 ay3 e3' (wasR s v1 zs)
    by_cases hi : isL v1 = true
    · rw [if_pos hi] at hh
      rw [hh] at h1 h2
      exact ⟨h1.1, h1.2.1, h1.2.2.2, h2⟩
    · rw [if_neg hi] at hh
      simp only [Prod.mk.injEq] at hh
      obtain ⟨rfl, rfl, rfl, rfl⟩ := hh
      exact ⟨hw3b.1, hw3b.2.1, by omega, by simp⟩
  obtain ⟨hhb1, hhb2, hhb3, hhb4⟩ := hhb
  have hts4 : tsh.length ≤ 60 * (k + 1) := by omega
  have HH := Lib.hid hh
  obtain ⟨yh, hyh⟩ : ∃ y : Ev, { y3 with hs := if eh = 0 then hl else [] } = y := ⟨_, rfl⟩
  have hyhh : yh.hs = if eh = 0 then hl else [] := by rw [← hyh]
  have hyhl : yh.hs.length ≤ 25 := by
    rw [hyhh]
    split
    · exact hhb4
    · simp
  have HYH := Lib.hid hyh
  have HYHH := Lib.hid hyhh
  have HYHL := Lib.hid hyhl
  clear hcut3 hZ hsm3 hy3k hy3h hb3 hwas0 hh hhb4 hyh hyhh hyhl
  -- the headers
  go_upto_region 48 with fail
  go_cut [265] from 259 to 265 (fun f wx => f = .bool (decide (e3' = 0 ∧ v1 ≤ 3)) ∧ w13 = wx)
  case first =>
    have c0 : w13.cell? ⟨xb, 0, none⟩ = some (.int .i64 v1) := by rw [← HY3K.out]; exact cell_of_heap HT13.out.xbox rfl
    by_cases he : e3' = 0
    · have d1 : (e3' == 0) = true := by simpa using he
      have dd1 : decide (e3' = 0) = true := by simpa using he
      by_cases hc2 : v1 ≤ 3
      · have HC := Lib.hid (decide_eq_true (p := e3' = 0 ∧ v1 ≤ 3) ⟨he, hc2⟩)
        clear he
        go_wp2_with fail
        go_meet
        exact ⟨by rw [HC.out], rfl⟩
      · have HC := Lib.hid (decide_eq_false (p := e3' = 0 ∧ v1 ≤ 3) (fun h => hc2 h.2))
        have hgt : 3 < v1 := by omega
        have HLE := Lib.hid (decide_eq_false hc2)
        clear he hc2
        go_wp2_with fail
        go_meet
        exact ⟨by rw [HC.out, HLE.out], rfl⟩
    · have d1 : (e3' == 0) = false := by simpa using he
      have dd1 : decide (e3' = 0) = false := by simpa using he
      have HC := Lib.hid (decide_eq_false (p := e3' = 0 ∧ v1 ≤ 3) (fun h => he h.1))
      clear he
      go_wp2_with fail
      go_meet
      exact ⟨by rw [HC.out], rfl⟩
  case rest =>
  obtain ⟨rfl, hwc⟩ := hcut
  subst hwc
  go_upto_if 265 with fail
  go_cut [2, 11] from 265 to 292 (fun s2 s11 wx => s2 = .int .i64 ah ∧ s11 = .int .i64 eh ∧ ∃ H m d, RTo w tp lv qa qb xb (some ⟨b, o, none⟩) zs tsh wx ∧ wx.heap[xb]? = some (evO yh H m d) ∧ LstF w.heap.size yh.hs (.slice H m d) wx)
  case first =>
    by_cases hc2 : e3' = 0 ∧ v1 ≤ 3
    · rw [decide_eq_true hc2]
      obtain ⟨he, hc3⟩ := hc2
      subst he
      have hh := HH.out
      rw [isL_le hk1, decide_eq_true hc3, if_pos rfl] at hh
      unfold headR at hh
      rw [if_pos rfl, HWAS.out] at hh
      obtain ⟨l0, hl0, hf0⟩ := HT13.out.o.tab
      have hB13 : RBI w13 p tp l0 LV rows (k + 1) ⟨ts3, s.ti, s.L⟩ := HB.out.tab2 HT13.out.o.chg hl0 hf0 (by omega) (by omega)
      have hA13 : 0 < n → ∀ ad, A = some ad → ¬ ftr tp l0 ad.block := fun h0 ad e hk => by
        have h1 := HAF.out h0 ad e
        have h2 := HALT.out h0 ad e
        rcases hf0 _ hk with h3 | h3
        · exact h1 (.inr (.inl h3))
        · omega
      have hdt := fun (u : World) (hu : Grew w13 u) (Aw : Option Addr) (nw cw : Nat) (hs : RdH u Aw nw (if z0 ≤ 1048576 then s.L z0 b3 else [])) (hw : nw ≤ 25 ∧ nw ≤ cw ∧ cw ≤ 9223372036854775807) (hAw : 0 < nw → ∀ ad, Aw = some ad → ¬ ftr tp l0 ad.block) => Calls.mono (rdtake_any tp l0 ts3 A n c bs ay3 Aw nw cw (if z0 ≤ 1048576 then s.L z0 b3 else []) u (hl0.keep hu) ((HRD.out _ HT13.out.o.chg).keep hu) hs hA13 hAw HBYT.out hnc hc (by omega) (by omega) hw.2.1 hw.2.2 (by omega) hw3b.1 hw3b.2.1) (fun e w' h => RDTakeQ.lst h)
      rw [hh] at hdt
      dsimp only at hdt
      have cp := HPC.out _ HT13.out.o.chg
      have c0 : w13.cell? ⟨xb, 0, none⟩ = some (.int .i64 v1) := by rw [← HY3K.out]; exact cell_of_heap HT13.out.xbox rfl
      obtain ⟨b', o', hA', dz⟩ := HT13.out.o.ld HZ0.out
      cases hA'
      rw [Nat.add_zero] at dz
      have HDT := Lib.hid hdt
      have HL0 := Lib.hid hl0
      have HF0 := Lib.hid hf0
      have HB13 := Lib.hid hB13
      have hfinish : ∀ (u u' u2 : World) (H : Option Addr) (m d : Nat), Grew w13 u → RTakeQ u u' tp l0 tsh → LstF u.heap.size (if eh = 0 then hl else []) (.slice H m d) u' → u2.heap[xb]? = some (.cells ((evA y3 none 0 0).setIfInBounds 5 (.slice H m d)) 34) → u'.grownBy u2 (some xb) → ∃ H m d, RTo w tp lv qa qb xb (some ⟨b, o, none⟩) zs tsh u2 ∧ u2.heap[xb]? = some (evO yh H m d) ∧ LstF w.heap.size yh.hs (.slice H m d) u2 := by
        intro u u' u2 H m d hg hQ hL hx hby
        have h1 := (HT13.out.keep hg).o.text (HL0.out.keep hg) HF0.out hQ
        have hxb : u'.heap[xb]? = some (evO y3 none 0 0) := hQ.chg.by_ (HT13.out.keep hg).xbox (ftr_other (HL0.out.keep hg) (HT13.out.keep hg).xbox (by decide) (by decide))
        have h2 := h1.by_ hby hxb h1.x0 h1.xa h1.xq
        have hxl := (Array.getElem?_eq_some_iff.1 HT13.out.xbox).1
        have hsz := hg.size
        refine ⟨H, m, d, h2, by rw [hx, ← HYH.out]; rfl, ?_⟩
        rw [HYHH.out]
        obtain ⟨A2, n2, c2, g1, g2, g3, g4, g5, g6, g7⟩ := hL
        have hne : ∀ ad, A2 = some ad → ¬ (ad.block = xb) := fun ad e e2 => by have := g7 ad e; omega
        exact ⟨A2, n2, c2, g1, g2.chg (chg1 hby) (fun _ => hne), g3, g4, g5.chg (chg1 hby) hne, g6, fun ad e => by have h3 := g7 ad e; have h4 := HT13.out.o.chg.size; omega⟩
      have HFI := Lib.hid hfinish
      clear hh hl0 hf0 hB13 hA13 hdt hfinish
      go_upto_region 50 with fail
      have hal : Grew w13 (w13.alloc (.cells #[] 124)) := (Grew.rf w13).al _
      obtain ⟨wa, hwa⟩ : ∃ wa, w13.alloc (.cells #[] 124) = wa := ⟨_, rfl⟩
      rw [hwa] at hal ⊢
      have c0a := hal.ce c0
      have cpa := hal.ce cp
      have dza := hal.ce dz
      have HAL := Lib.hid hal
      clear hwa hal c0 cp dz
      by_cases hz : z0 ≤ 1048576
      · have hli := fun (u : World) (hu : Grew w13 u) => rlist_any p tp l0 LV rows (k + 1) ⟨ts3, s.ti, s.L⟩ z0 b3 u (HB13.out.keep hu)
        dsimp only at hli
        have HLI := Lib.hid hli
        have HDT2 := HDT.out
        rw [if_pos hz] at HDT2
        have HDT3 := Lib.hid HDT2
        clear hli HDT2
        go_upto_region 51 with fail
        go_cut [18] from 271 to 279 (fun s18 wx => ∃ Aw nw cw, s18 = .slice Aw nw cw ∧ RdH wx Aw nw (s.L z0 b3) ∧ (nw ≤ 25 ∧ nw ≤ cw ∧ cw ≤ 9223372036854775807) ∧ (0 < nw → ∀ ad, Aw = some ad → ¬ ftr tp l0 ad.block) ∧ Grew wa wx)
        case first =>
          refine region_split 8 [[], [], [(1, 272)], [(1, 272), (2, 273)], [(1, 272), (2, 273), (3, 274)], [], [(5, 276)], [(5, 276), (6, 277)], [(0, 271), (1, 272), (2, 273), (3, 274), (4, 275), (5, 276), (6, 277), (7, 278)], [(0, 271), (1, 272), (2, 273), (3, 274), (4, 275), (5, 276), (6, 277), (7, 278), (8, 279)]] [(0, 271), (1, 272), (2, 273), (3, 274), (4, 275), (5, 276), (6, 277), (7, 278)] (fun
            | 0 => .eqv (.pointer (some ⟨p, 0, none⟩)) | 1 => .eqv (.slice (some ⟨b, o, none⟩) many cL) | 2 => .eqv (.pointer (some ⟨b, o, none⟩)) | 3 => .eqv (.int .u64 z0) | 4 => .eqv (.int .i64 z0) | 5 => .eqv (.pointer (some ⟨xb, 0, none⟩)) | 6 => .eqv (.int .i64 v1) | 7 => .eqv (.bool b3) | _ => .any) (by kernel_rfl) ?_ ?_
          · refine ⟨fun u hu => ?_, fun u hu => ?_, fun u hu => ?_, fun u hu => ?_, fun u hu => ?_, fun u hu => ?_, fun u hu => ?_, fun u hu => ?_, trivial⟩
            · refine StepGoal.nil ?_
              go_wp2
              exact ⟨rfl, rfl, Grew.rf _, rfl⟩
            · refine StepGoal.nil ?_
              go_wp2
              exact ⟨rfl, rfl, Grew.rf _, rfl⟩
            · rintro _ rfl
              refine StepGoal.nil ?_
              simp only [Act.put, List.setIfInBounds_toArray, List.set_cons_zero, List.set_cons_succ]
              go_wp2
              exact ⟨rfl, rfl, Grew.rf _, rfl⟩
            · rintro _ rfl _ rfl
              have hce := hu.ce dza
              refine StepGoal.nil ?_
              simp only [Act.put, List.setIfInBounds_toArray, List.set_cons_zero, List.set_cons_succ]
              go_wp2
              exact ⟨rfl, rfl, Grew.rf _, rfl⟩
            · rintro _ rfl _ rfl _ rfl
              refine StepGoal.nil ?_
              simp only [Act.put, List.setIfInBounds_toArray, List.set_cons_zero, List.set_cons_succ]
              go_wp2
              exact ⟨rfl, rfl, Grew.rf _, rfl⟩
            · refine StepGoal.nil ?_
              go_wp2
              exact ⟨rfl, rfl, Grew.rf _, rfl⟩
            · rintro _ rfl
              have hce := hu.ce c0a
              refine StepGoal.nil ?_
              simp only [Act.put, List.setIfInBounds_toArray, List.set_cons_zero, List.set_cons_succ]
              go_wp2
              exact ⟨rfl, rfl, Grew.rf _, rfl⟩
            · rintro _ rfl _ rfl
              refine StepGoal.nil ?_
              simp only [Act.put, List.setIfInBounds_toArray, List.set_cons_zero, List.set_cons_succ]
              go_wp2
              exact ⟨rfl, rfl, Grew.rf _, rfl⟩
          · intro u hu
            rintro _ rfl _ rfl _ rfl _ rfl _ rfl _ rfl _ rfl _ rfl
            refine StepGoal.nil ?_
            simp only [Act.put, List.setIfInBounds_toArray, List.set_cons_zero, List.set_cons_succ]; simp only [List.drop_succ_cons, List.drop_zero]
            go_wp2_with (go_at_call 49; refine Calls.mono (HLI.out _ (HAL.out.tr hu)) ?_; rintro e w3 ⟨Aw, nw, cw, rfl, hrw, hnw, haw, rfl⟩)
            go_meet
            exact ⟨Aw, nw, cw, rfl, hrw, hnw, fun h0 ad e h => haw h0 ad e (.inr (.inl h)), hu⟩
        case rest =>
        obtain ⟨Aw, nw, cw, rfl, hrw, hnw, haw, hgw⟩ := hcut
        obtain ⟨wl, hwl⟩ : ∃ w9, w9 = wc := ⟨_, rfl⟩
        subst hwl
        have hG := HAL.out.tr hgw
        have cpl := hgw.ce cpa
        have hcall := HDT3.out wl hG Aw nw cw hrw hnw haw
        have HG := Lib.hid hG
        have HCALL := Lib.hid hcall
        clear c0a cpa dza hrw hnw haw hgw hG hcall
        go_wp2_with (first | (go_at_call 34; refine Calls.mono HCALL.out ?_; rintro e wt ⟨H, m, d, rfl, hQt, hLt⟩; have hxt : wt.heap[xb]? = some (evO y3 none 0 0) := hQt.chg.by_ (HT13.out.keep HG.out).xbox (ftr_other (HL0.out.keep HG.out) (HT13.out.keep HG.out).xbox (by decide) (by decide))) | ((with_reducible refine gate_st 31 (.tmp 292) (.tmp 289) rfl ?_); refine st_cell0 rfl rfl rfl rfl rfl rfl hxt (by kernel_rfl) (by simp) ?_; intro Ws hWs hbys))
        go_meet
        exact ⟨rfl, rfl, HFI.out _ _ _ H m d HG.out hQt hLt hWs hbys⟩
      · have HDT2 := HDT.out
        rw [if_neg hz] at HDT2
        have hzg : 1048576 < z0 := by omega
        have hcall := HDT2 _ HAL.out (some ⟨w13.heap.size, 0, none⟩) 0 0 (RdV.nil _ _ _) ⟨by omega, by omega, by omega⟩ (fun h => by omega)
        have cpl := cpa
        have HG := HAL
        have HCALL := Lib.hid hcall
        clear HDT2 hcall hz
        go_wp2_with (first | (go_at_call 34; refine Calls.mono HCALL.out ?_; rintro e wt ⟨H, m, d, rfl, hQt, hLt⟩; have hxt : wt.heap[xb]? = some (evO y3 none 0 0) := hQt.chg.by_ (HT13.out.keep HG.out).xbox (ftr_other (HL0.out.keep HG.out) (HT13.out.keep HG.out).xbox (by decide) (by decide))) | ((with_reducible refine gate_st 31 (.tmp 292) (.tmp 289) rfl ?_); refine st_cell0 rfl rfl rfl rfl rfl rfl hxt (by kernel_rfl) (by simp) ?_; intro Ws hWs hbys))
        go_meet
        exact ⟨rfl, rfl, HFI.out _ _ _ H m d HG.out hQt hLt hWs hbys⟩
    · rw [decide_eq_false hc2]
      have hhe : (hl, ah, eh, tsh) = ([], ay3, e3', ts3) := by
        rw [← HH.out]
        by_cases hc3 : v1 ≤ 3
        · have he : e3' ≠ 0 := fun h => hc2 ⟨h, hc3⟩
          rw [isL_le hk1, decide_eq_true hc3, if_pos rfl, headR_err he]
        · rw [isL_le hk1, decide_eq_false hc3]
          rfl
      simp only [Prod.mk.injEq] at hhe
      obtain ⟨rfl, rfl, rfl, rfl⟩ := hhe
      have hye : yh = y3 := by
        rw [← HYH.out]
        have := HY3H.out
        cases y3
        simp only at this
        simp [this]
      have HYE := Lib.hid hye
      clear hc2 hye
      go_wp2_with fail
      go_meet
      refine ⟨rfl, rfl, none, 0, 0, HT13.out.o, by rw [HYE.out]; exact HT13.out.xbox, ?_⟩
      rw [HYE.out, HY3H.out]
      exact LstF.nil _ _
  case rest =>
  obtain ⟨rfl, rfl, H, m, d, hO, hxb, hLst⟩ := hcut
  obtain ⟨w14, hw14⟩ : ∃ w9, w9 = wc := ⟨_, rfl⟩
  subst hw14
  have hZ2 : takeB s bs at_ = (if eh ≠ 0 then (zeroE, 0, eh, ⟨tsh, s.ti, s.L⟩) else if q2 = true ∨ goodE yh = false then (zeroE, 0, 4, ⟨tsh, s.ti, s.L⟩) else (yh, ah, 0, toldB s tsh yh)) := by
    rw [HZ.out]
    unfold refH
    rw [HH.out]
    dsimp only
    by_cases he : eh = 0
    · subst he
      have hyy : (if isL v1 = true then { y3 with hs := hl } else y3) = yh := by
        rw [← HYH.out]
        by_cases hi : isL v1 = true
        · rw [if_pos hi, if_pos rfl]
        · rw [if_neg hi, if_pos rfl]
          have hh := HH.out
          rw [if_neg hi] at hh
          simp only [Prod.mk.injEq] at hh
          have h3 := HY3H.out
          obtain ⟨h4, -⟩ := hh
          cases y3
          simp only at h3
          simp [h3, ← h4]
      rw [hyy, HQ2.out]
    · rw [if_pos he, if_pos he]
  have HZ2 := Lib.hid hZ2
  have HO14 := Lib.hid hO
  have HXB14 := Lib.hid hxb
  have HLST := Lib.hid hLst
  have hqa14 : w14.heap[qa]? = some (.cells #[.int .i64 0, .int .i64 0, .int .i64 0, .string { data := #[] }, .string { data := #[] }, .slice none 0 0, .string { data := #[] }, .int .i64 0, .int .i64 0, .bool false, .string { data := #[] }, .int .u64 0] 34) := hO.abox
  have hqb14 : w14.heap[qb]? = some (.cells #[.int .i64 0, .int .i64 0, .int .i64 0, .string { data := #[] }, .string { data := #[] }, .slice none 0 0, .string { data := #[] }, .int .i64 0, .int .i64 0, .bool false, .string { data := #[] }, .int .u64 0] 34) := hO.bbox
  have hyk : yh.ki = v1 := by rw [← HYH.out]; exact HY3K.out
  have HYK := Lib.hid hyk
  clear hZ2 hO hLst hyk HT13 HZ
  by_cases heh : eh = 0
  case neg =>
    have d1 : (eh == 0) = false := by simpa using heh
    have dd1 : decide (eh = 0) = false := by simpa using heh
    have HE := Lib.hid heh
    clear heh hxb
    go_wp2_with (first | ((with_reducible refine gate_ld' 34 (.tmp 9) rfl ?_); refine ld_row (.inl rfl) rfl rfl hqb14 rfl Try.underlying34 (by kernel_rfl) ?_) | ((with_reducible refine gate_st 34 (.tmp 6) (.tmp 295) rfl ?_); refine st_row0 rfl rfl rfl rfl rfl hqa14 (by kernel_rfl) rfl (by simp [Value.oneCell']) ?_; intro W9 hW9 hby9))
    refine bodyPost_ret (rtake_ret rfl rfl rfl hW9 rfl) rfl ?_
    exact HO14.out.err HB.out hby9 hts4 hk (by rw [HZ2.out, if_pos HE.out])
  case pos =>
  subst heh
  obtain ⟨xc, hxc⟩ : ∃ xc : Array Value, evA yh H m d = xc := ⟨_, rfl⟩
  have hxs : xc.size = 12 := by rw [← hxc]; rfl
  have hx14 : w14.heap[xb]? = some (.cells xc 34) := by rw [← hxc]; exact hxb
  have HXC := Lib.hid hxc
  have HXS := Lib.hid hxs
  obtain ⟨A2, n2, c2, hve, hr2, hnc2, hc2, hdb2, hnil2, hfr2⟩ := HLST.out
  cases hve
  have hm25 : m ≤ 25 := by rw [← hr2.lenH]; exact HYHL.out
  by_cases hq : q2 = true
  · subst hq
    clear hxc hxs hxb
    go_wp2_with (first | ((with_reducible refine gate_ld' 34 (.tmp 9) rfl ?_); refine ld_row (.inl rfl) rfl rfl hqb14 rfl Try.underlying34 (by kernel_rfl) ?_) | ((with_reducible refine gate_st 34 (.tmp 6) (.tmp 303) rfl ?_); refine st_row0 rfl rfl rfl rfl rfl hqa14 (by kernel_rfl) rfl (by simp [Value.oneCell']) ?_; intro W9 hW9 hby9))
    refine bodyPost_ret (rtake_ret rfl rfl rfl hW9 rfl) rfl ?_
    exact HO14.out.err HB.out hby9 hts4 hk (by rw [HZ2.out]; simp)
  obtain rfl : q2 = false := by simpa using hq
  have hyco : yh.co = y3.co := by rw [← HYH.out]
  have hgd := rgood_any yh H m d w14 hr2 (by omega) (by rw [hyco]; have := HCO3.out; omega)
  simp only [evV, HXC.out] at hgd
  have HR2 := Lib.hid hr2
  have HDB2 := Lib.hid hdb2
  have HFR2 := Lib.hid hfr2
  clear hyco hq hxc hxs hxb hr2 hdb2 hfr2
  by_cases hg : goodE yh = true
  case neg =>
    have hg : goodE yh = false := by simpa using hg
    rw [hg] at hgd
    have HGD := Lib.hid hgd
    have HGF := Lib.hid hg
    clear hgd hg
    go_wp2_with (first | ((with_reducible refine gate_ld' 34 (.tmp 12) rfl ?_); refine ld_row (.inr rfl) rfl rfl hx14 rfl Try.underlying34 (by rw [HXS.out]; kernel_rfl) ?_) | (go_at_call 39; refine Calls.mono (HGD.out) ?_; rintro e w15 ⟨rfl, hg15⟩; have hx15 := heap_keep hg15 hx14; have hqa15 := heap_keep hg15 hqa14; have hqb15 := heap_keep hg15 hqb14) | ((with_reducible refine gate_ld' 34 (.tmp 9) rfl ?_); refine ld_row (.inl rfl) rfl rfl hqb15 rfl Try.underlying34 (by kernel_rfl) ?_) | ((with_reducible refine gate_st 34 (.tmp 6) (.tmp 303) rfl ?_); refine st_row0 rfl rfl rfl rfl rfl hqa15 (by kernel_rfl) rfl (by simp [Value.oneCell']) ?_; intro W9 hW9 hby9))
    refine bodyPost_ret (rtake_ret rfl rfl rfl hW9 rfl) rfl ?_
    exact (HO14.out.keep hg15).err HB.out hby9 hts4 hk (by rw [HZ2.out]; simp [HGF.out])
  case pos =>
  rw [hg] at hgd
  have hG := goodP_of hg
  have hGt := hG.ti
  have hz2 : takeB s bs at_ = (yh, ah, 0, toldB s tsh yh) := by rw [HZ2.out]; simp [hg]
  have HZ3 := Lib.hid hz2
  have HGD := Lib.hid hgd
  obtain ⟨l0, hl0, hf0⟩ := HO14.out.tab
  have hB14 : RBI w14 p tp l0 LV rows (k + 1) ⟨tsh, s.ti, s.L⟩ := HB.out.tab2 HO14.out.chg hl0 hf0 hts4 (by omega)
  have htd := fun (u : World) (hu : Grew w14 u) => rtold_any p tp l0 LV rows (k + 1) ⟨tsh, s.ti, s.L⟩ yh H m d u (hB14.keep hu) (HR2.out.keep hu) ⟨hm25, hnc2, hc2⟩ (by rw [HYK.out]; exact hk1) hGt.1 hGt.2 (fun h0 ad e => by obtain ⟨cs, fr, hc⟩ := HDB2.out.keep hu ad e; exact (hB14.keep hu).other hc (by decide) (by decide) (by decide) (by decide)) (by omega)
  simp only [evV, HXC.out] at htd
  have HTD := Lib.hid htd
  have HB14 := Lib.hid hB14
  have HF0 := Lib.hid hf0
  clear hgd hG hGt hz2 hl0 hf0 hB14 htd hg
  go_wp2_with (first | (have hh := hx16; ((with_reducible refine gate_ld' 34 (.tmp 12) rfl ?_); refine ld_row (.inl rfl) rfl rfl hx16 rfl Try.underlying34 (by rw [HXS.out]; kernel_rfl) ?_)) | (have hh := hx15; ((with_reducible refine gate_ld' 34 (.tmp 12) rfl ?_); refine ld_row (.inl rfl) rfl rfl hx15 rfl Try.underlying34 (by rw [HXS.out]; kernel_rfl) ?_)) | ((with_reducible refine gate_ld' 34 (.tmp 12) rfl ?_); refine ld_row (.inr rfl) rfl rfl hx14 rfl Try.underlying34 (by rw [HXS.out]; kernel_rfl) ?_) | (go_at_call 39; refine Calls.mono (HGD.out) ?_; rintro e w15 ⟨rfl, hg15⟩; have hx15 := heap_keep hg15 hx14; have hqa15 := heap_keep hg15 hqa14; have hqb15 := heap_keep hg15 hqb14) | (go_at_call 50; refine Calls.mono (HTD.out _ hg15) ?_; rintro e w16 ⟨rfl, hQ16⟩; have hx16 := hQ16.chg.by_ hx15 (fun h => (HB14.out.keep hg15).other hx15 (by decide) (by decide) (by decide) (by decide) (h.elim .inl (fun h => .inr (.inr h)))); have hqa16 := hQ16.chg.by_ hqa15 (fun h => (HB14.out.keep hg15).other hqa15 (by decide) (by decide) (by decide) (by decide) (h.elim .inl (fun h => .inr (.inr h))))) | ((with_reducible refine gate_st 34 (.tmp 6) (.tmp 307) rfl ?_); refine st_row0 rfl rfl rfl rfl rfl hqa16 (by rw [HXS.out]; kernel_rfl) (by rw [HXS.out]; rfl) (by rw [← HXC.out]; simp [evA, Value.oneCell']) ?_; intro W9 hW9 hby9))
  refine bodyPost_ret (rtake_ret rfl rfl rfl hW9 HXS.out) rfl ?_
  rw [HZ3.out]
  obtain ⟨LV', rows', hb16, hf16, hM16⟩ := hQ16.book
  have hca := chg1 hby9
  have hneq : ∀ ad, H = some ad → ¬ (ad.block = qa) := fun ad e e2 => by
    obtain ⟨cs, fr, hc⟩ := HDB2.out ad e
    have h2 := HO14.out.abox
    rw [e2, h2] at hc
    simp only [Option.some.injEq, Obj.cells.injEq] at hc
    exact absurd hc.2.1 (by decide)
  have hpl : ∀ b, (b = p ∨ LV.ownBlock = some b) → b < w.heap.size := fun b hb => HB.out.lt (hb.elim .inl (fun h => .inr (.inr h)))
  have hnl : ∀ ad, H = some ad → ¬ (ad.block = p ∨ LV.ownBlock = some ad.block) := fun ad e hb => by have h1 := HFR2.out ad e; have h2 := hpl _ hb; omega
  have hrow : LB (fun b => ¬ (b = qa)) rows' := hM16 _ (fun _ ad e => hneq ad e) (fun r hr h0 ad e e2 => by have h1 := ((HB.out.lines.ap r hr).2 h0 ad e).2; have h2 := HO14.out.a0; omega)
  have hb9 := hb16.chg hca (fun b hb e => hb16.other (e ▸ hqa16) (by decide) (by decide) (by decide) (by decide) hb) hrow
  refine ⟨H, m, d, by rw [← HXC.out]; rfl, ⟨H, m, d, rfl, ((HR2.out.keep hg15).chg hQ16.chg (fun _ => hnl)).chg hca (fun _ => hneq), hnc2, hc2, ((HDB2.out.keep hg15).chg hQ16.chg hnl).chg hca hneq, hnil2, HFR2.out⟩, ⟨l0, LV', rows', hb9, fun b hb => ?_, fun M hM hR => hM16 M (fun _ ad e => hM _ (HFR2.out ad e)) hR⟩, ?_⟩
  · have h1 := HO14.out.chg.size
    have h2 := hg15.size
    rcases hb with hb | hb | hb
    · exact .inl (.inl hb)
    · exact (HF0.out b hb).imp (fun h => .inr (.inl h)) (fun h => h)
    · exact (hf16 b hb).imp (fun h => .inr (.inr h)) (fun h => by omega)
  · refine (HO14.out.chg.mono (fun b h => .inr (.inl h))).tr ((Chg.of hg15).tr ((hQ16.chg.mono (fun b h => .inl (.inl (h.elim .inl (fun h => .inr (.inr h)))))).tr (hca.mono (fun b e => ?_))))
    have := HO14.out.a0
    exact .inl (.inl (.inr (by omega)))
end Go.Proofs.Ytbkcpgaicoagfaa
