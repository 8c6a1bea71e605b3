/- The answer's Book: Put. Printed by wip/mkRb4.py. -/
import Derived.Test.YtbkcpgaicoagfaaRb3
import Derived.Test.YtbkcpgaicoagfaaReg7e
import Derived.Test.YtbkcpgaicoagfaaEg28
import Derived.Test.YtbkcpgaicoagfaaEg32
import Derived.Test.YtbkcpgaicoagfaaEg14
set_option linter.unusedVariables false
set_option linter.unusedSimpArgs false
namespace Go.Proofs.Ytbkcpgaicoagfaa
open Go.RowKit

/-- Bytes and the answer's table, on their way. -/
structure RTabO (w0 : World) (tp : Nat) (lv : Value) (out : List Int) (ts : List ByteArray) (N : Nat) (lv' v : Value) (u : World) : Prop where
  tab : RefI u tp lv' ts
  ft : ∀ k, ftr tp lv' k → ftr tp lv k ∨ w0.heap.size ≤ k
  out : OutP w0.heap.size out N v u
  chg : Chg (ftr tp lv) w0 u
theorem RTabO.keep {w0 u u' : World} {tp : Nat} {lv : Value} {out : List Int} {ts : List ByteArray} {N : Nat} {lv' v : Value} (h : RTabO w0 tp lv out ts N lv' v u) (hg : Grew u u') : RTabO w0 tp lv out ts N lv' v u' :=
  ⟨h.tab.keep hg, h.ft, h.out.keep hg, h.chg.tr (Chg.of hg)⟩
/-- What RPutQ makes of it. -/
theorem RTabO.put {w0 u u' : World} {tp : Nat} {lv : Value} {out : List Int} {ts : List ByteArray} {N : Nat} {lv' v : Value} (h : RTabO w0 tp lv out ts N lv' v u) {out2 : List Int} {ts2 : List ByteArray} {B : Option Addr} {m d N2 : Nat} (Q : RPutQ u u' tp lv' out2 ts2 B m d) (hN : m ≤ N2) : ∃ l2, RTabO w0 tp lv out2 ts2 N2 l2 (.slice B m d) u' := by
  obtain ⟨l2, hT, hf, hap⟩ := Q.tab
  have hsz := h.chg.size
  refine ⟨l2, hT, fun k hk => ?_, ⟨B, m, d, rfl, Q.le, Q.cap, Q.rd, Q.fresh.mono hsz, Q.u8, hN⟩, h.chg.tr (Q.chg.mono h.ft)⟩
  rcases hf k hk with h1 | h1
  · exact h.ft k h1
  · exact .inr (by omega)
/-- A block of other cells stands while the table's Put runs. -/
theorem RTabO.other {w0 u u' : World} {tp : Nat} {lv : Value} {out : List Int} {ts : List ByteArray} {N : Nat} {lv' v : Value} (h : RTabO w0 tp lv out ts N lv' v u) {out2 : List Int} {ts2 : List ByteArray} {B : Option Addr} {m d : Nat} (Q : RPutQ u u' tp lv' out2 ts2 B m d) {b : Nat} {cs : Array Value} {T : TypeId} {fr : Nat × Nat} (hb : u.heap[b]? = some (.cells cs T fr)) (h1 : T ≠ 50) (h2 : T ≠ 9) : u'.heap[b]? = some (.cells cs T fr) :=
  Q.chg.by_ hb (ftr_other h.tab hb h1 h2)
/-- Behind the answer's Put that was let. -/
structure RBPutQ (w : World) (p tp : Nat) (lv LV : Value) (rows : List Lnr) (k : Nat) (s : PB) (A : Option Addr) (n : Nat) (out : List Int) (N : Nat) (v : Value) (w' : World) : Prop where
  out : OutP w.heap.size out N v w'
  book : ∃ lv' LV' rows', RBI w' p tp lv' LV' rows' (k + 2) s ∧ (∀ b, ftR p tp lv' LV' b → ftR p tp lv LV b ∨ w.heap.size ≤ b) ∧ ∀ M : Nat → Prop, (0 < n → ∀ ad, A = some ad → M ad.block) → LB M rows → LB M rows'
  chg : Chg (ftR p tp lv LV) w w'
def Pd.lstR (l : List Hdr) : Pd := ⟨fun v u => ∃ A n c, v = .slice A n c ∧ RdH u A n l ∧ n ≤ 25, fun v u u' ⟨A, n, c, h1, h2, h3⟩ hg => ⟨A, n, c, h1, h2.keep hg, h3⟩⟩
theorem leb_ki {ki : Int} (h : 1 ≤ ki ∧ ki ≤ 7) : leb ki = [ki] := by
  rcases (by omega : ki = 1 ∨ ki = 2 ∨ ki = 3 ∨ ki = 4 ∨ ki = 5 ∨ ki = 6 ∨ ki = 7) with rfl | rfl | rfl | rfl | rfl | rfl | rfl <;> decide +kernel
theorem leb_bit (cr : Bool) : leb (if cr then 1 else 0) = [if cr then 1 else 0] := by cases cr <;> decide +kernel
def nCo (x : Ev) : List Int := if x.ki = 1 ∨ x.ki = 2 ∨ x.ki = 7 then leb x.co else []
def nSt (x : Ev) : List Int := if x.ki = 3 ∨ x.ki = 7 then leb x.st else []
def nCr (x : Ev) : List Int := if x.ki = 2 then [if x.cr then 1 else 0] else []
def nNn (x : Ev) : List Int := if x.ki = 2 ∨ x.ki = 5 ∨ x.ki = 6 then leb x.nn else []
theorem nums_eq {x : Ev} (h : 1 ≤ x.ki ∧ x.ki ≤ 7) : lebs (numI x) = nCo x ++ nSt x := by
  unfold lebs numI nCo nSt
  rcases (by omega : x.ki = 1 ∨ x.ki = 2 ∨ x.ki = 3 ∨ x.ki = 4 ∨ x.ki = 5 ∨ x.ki = 6 ∨ x.ki = 7) with e | e | e | e | e | e | e <;> rw [e] <;> simp [numF, fldI]
theorem mid_eq {x : Ev} : midE x = nCr x ++ nNn x := by
  unfold midE nCr nNn
  by_cases h2 : x.ki = 2
  · simp [h2, leb_bit]
  · simp [h2]
def tF (x : Ev) : List ByteArray := if x.ki = 1 ∨ x.ki = 2 then [x.me, x.ur] else []
def tG (x : Ev) : List ByteArray := if x.ki = 1 then [x.no] else []
def tH (x : Ev) : List ByteArray := if x.ki ≤ 3 then [x.bo] else []
theorem wor_eq {x : Ev} (h : 1 ≤ x.ki ∧ x.ki ≤ 7) : worE x = tF x ++ tG x ++ tH x := by
  unfold worE tF tG tH
  rcases (by omega : x.ki = 1 ∨ x.ki = 2 ∨ x.ki = 3 ∨ x.ki = 4 ∨ x.ki = 5 ∨ x.ki = 6 ∨ x.ki = 7) with e | e | e | e | e | e | e <;> rw [e] <;> simp [worF, fldT]
theorem putTs_two (ts : List ByteArray) (a b : ByteArray) : putTs ts [a, b] = ((putT ts a).1 ++ (putT (putT ts a).2 b).1, (putT (putT ts a).2 b).2) := by simp [putTs]
theorem putTs_app (l : List ByteArray) : ∀ (ts : List ByteArray) (m : List ByteArray), putTs ts (l ++ m) = ((putTs ts l).1 ++ (putTs (putTs ts l).2 m).1, (putTs (putTs ts l).2 m).2) := by
  induction l with
  | nil => intro ts m; simp [putTs]
  | cons a l ih => intro ts m; simp only [List.cons_append, putTs, ih, List.append_assoc]

set_option maxRecDepth 100000 in
set_option maxHeartbeats 6400000 in
theorem rbput_bad (p tp : Nat) (lv LV : Value) (rows : List Lnr) (k : Nat) (s : PB) (x : Ev) (A : Option Addr) (n c : Nat) (A0 : Option Addr) (n0 d0 : Nat) (w : World) (hB : RBI w p tp lv LV rows k s) (hr : RdH w A n x.hs) (hn : n ≤ 1000) (hco : -9223372036854775808 ≤ x.co ∧ x.co ≤ 9223372036854775807) (hg : goodE x = false) :
    Calls Try.prog 16 #[.pointer (some ⟨p, 0, none⟩), .slice A0 n0 d0, evV x A n c] w fun e w' => e = .returned (.tuple #[.slice none 0 0, .int .i64 4]) ∧ Grew w w' := by
  have hgd := fun (u : World) (hu : Grew w u) => rgood_any x A n c u (hr.keep hu) hn hco
  rw [hg] at hgd
  have HGD := Lib.hid hgd
  clear hgd hr hg hco
  obtain ⟨ki, se, ti, me, ur, hs, bo, st, co, cr, no, nn⟩ := x
  go_enter Try.func16, Try.ntmps16
  go_wp2_with (go_at_call 39; refine Calls.mono (HGD.out _ ((Grew.rf w).al _)) ?_; rintro e w2 ⟨rfl, hg2⟩)
  exact bodyPost_ret (v := .tuple #[.slice none 0 0, .int .i64 4]) (by simp [results, Try.results16, go_sem]) rfl ⟨rfl, ((Grew.rf w).al _).tr hg2⟩
set_option maxRecDepth 100000 in
set_option maxHeartbeats 6400000 in
theorem rbput_late (p tp : Nat) (lv LV : Value) (rows : List Lnr) (k : Nat) (s : PB) (x : Ev) (A : Option Addr) (n c : Nat) (A0 : Option Addr) (n0 d0 : Nat) (w : World) (hB : RBI w p tp lv LV rows k s) (hr : RdH w A n x.hs) (hn : n ≤ 1000) (hco : -9223372036854775808 ≤ x.co ∧ x.co ≤ 9223372036854775807) (hg : goodE x = true) (hlate : x.ti < s.ti) :
    Calls Try.prog 16 #[.pointer (some ⟨p, 0, none⟩), .slice A0 n0 d0, evV x A n c] w fun e w' => e = .returned (.tuple #[.slice none 0 0, .int .i64 9]) ∧ Grew w w' := by
  have hgd := fun (u : World) (hu : Grew w u) => rgood_any x A n c u (hr.keep hu) hn hco
  rw [hg] at hgd
  have HGD := Lib.hid hgd
  have HB := Lib.hid hB
  clear hgd hr hg hB hco
  obtain ⟨ki, se, ti, me, ur, hs, bo, st, co, cr, no, nn⟩ := x
  dsimp only at hlate
  obtain ⟨t0, ht0⟩ : ∃ t0, s.ti = t0 := ⟨_, rfl⟩
  rw [ht0] at hlate
  have hd : decide (ti < t0) = true := decide_eq_true hlate
  go_enter Try.func16, Try.ntmps16
  go_upto_region 3 with (go_at_call 39; refine Calls.mono (HGD.out _ ((Grew.rf w).al _)) ?_; rintro e w2 ⟨rfl, hg2⟩)
  have hx2 := heap_keep hg2 (heap_alloc_new w (evO ⟨ki, se, ti, me, ur, hs, bo, st, co, cr, no, nn⟩ A n c))
  have c2 : w2.cell? ⟨w.heap.size, 2, none⟩ = some (.int .i64 ti) := cell_of_heap hx2 rfl
  have hB2 := HB.out.keep (((Grew.rf w).al (evO ⟨ki, se, ti, me, ur, hs, bo, st, co, cr, no, nn⟩ A n c)).tr hg2)
  have c1 : w2.cell? ⟨p, 1, none⟩ = some (.int .i64 t0) := by rw [← ht0]; exact cell_of_heap hB2.cells rfl
  have HG2 := Lib.hid hg2
  clear hx2 hB2 hg2 ht0 hlate
  go_quiet (fail)
  go_wp2_with fail
  exact bodyPost_ret (v := .tuple #[.slice none 0 0, .int .i64 9]) (by simp [results, Try.results16, go_sem]) rfl ⟨rfl, (((Grew.rf w).al _).tr HG2.out).drN _⟩

set_option maxRecDepth 100000 in
set_option maxHeartbeats 6400000 in
theorem rbput_any (p tp : Nat) (lv LV : Value) (rows : List Lnr) (k : Nat) (s : PB) (x : Ev) (A : Option Addr) (n c : Nat) (A0 : Option Addr) (n0 d0 : Nat) (bs : List Int) (w : World) (hB : RBI w p tp lv LV rows k s) (hr : RdH w A n x.hs) (hnc : n ≤ c) (hc : c ≤ 9223372036854775807) (hrb : Rd w A0 n0 bs) (hn0 : n0 ≤ 5000000) (hAf : 0 < n → ∀ ad, A = some ad → ¬ ftR p tp lv LV ad.block) (hk : k < 990) (hW : EvW x) (hg : goodE x = true) (hlate : s.ti ≤ x.ti) :
    Calls Try.prog 16 #[.pointer (some ⟨p, 0, none⟩), .slice A0 n0 d0, evV x A n c] w fun e w' => ∃ v, e = .returned (.tuple #[v, .int .i64 0]) ∧ RBPutQ w p tp lv LV rows k (putB s x).2 A n (bs ++ (putB s x).1) (n0 + 1000000) v w' := by
  have hG := goodP_of hg
  have hl := hr.lenH
  have hn25 : n ≤ 25 := by rw [← hl]; exact hG.hs
  have hgd := fun (u : World) (hu : Grew w u) => rgood_any x A n c u (hr.keep hu) (by omega) hW.co
  rw [hg] at hgd
  have hne := nums_eq hG.ki
  have hwo := wor_eq hG.ki
  have hmi := mid_eq (x := x)
  have HNE := Lib.hid hne
  have HWO := Lib.hid hwo
  have HMI := Lib.hid hmi
  have HGD := Lib.hid hgd
  have HB := Lib.hid hB
  have HR := Lib.hid hr
  have HRB := Lib.hid hrb
  have HAF := Lib.hid hAf
  have HG := Lib.hid hG
  have HW := Lib.hid hW
  have HL := Lib.hid hl
  clear hgd hr hg hB hrb hAf hG hW hl hne hwo hmi
  obtain ⟨ki, se, ti, me, ur, hs, bo, st, co, cr, no, nn⟩ := x
  dsimp only at hlate HL HR
  obtain ⟨t0, ht0⟩ : ∃ t0, s.ti = t0 := ⟨_, rfl⟩
  have hb0 := HB.out.t0
  have hb1 := HB.out.t1
  rw [ht0] at hlate hb0 hb1
  have hg1 := HG.out.ki
  have hg2 := HG.out.se
  have hg3 := HG.out.ti
  dsimp only at hg1 hg2 hg3
  have hd : decide (ti < t0) = false := decide_eq_false (by omega)
  have HT0 := Lib.hid ht0
  go_enter Try.func16, Try.ntmps16
  go_upto_region 3 with (go_at_call 39; refine Calls.mono (HGD.out _ ((Grew.rf w).al _)) ?_; rintro e w2 ⟨rfl, hg2⟩)
  have hx2 := heap_keep hg2 (heap_alloc_new w (evO ⟨ki, se, ti, me, ur, hs, bo, st, co, cr, no, nn⟩ A n c))
  have hgW : Grew w w2 := ((Grew.rf w).al (evO ⟨ki, se, ti, me, ur, hs, bo, st, co, cr, no, nn⟩ A n c)).tr hg2
  have hB2 := HB.out.keep hgW
  obtain ⟨xb, hxb⟩ : ∃ xb, w.heap.size = xb := ⟨_, rfl⟩
  rw [hxb] at hx2 ⊢
  have c2 : w2.cell? ⟨xb, 2, none⟩ = some (.int .i64 ti) := cell_of_heap hx2 rfl
  have c1 : w2.cell? ⟨p, 1, none⟩ = some (.int .i64 t0) := by rw [← HT0.out]; exact cell_of_heap hB2.cells rfl
  have HX2 : RowKit.Hid (w2.heap[xb]? = some (.cells #[.int .i64 ki, .int .i64 se, .int .i64 ti, .string me, .string ur, .slice A n c, .string bo, .int .i64 st, .int .i64 co, .bool cr, .string no, .int .u64 nn] 34)) := hx2
  have HGW := Lib.hid hgW
  have HXB := Lib.hid hxb
  clear hx2 hB2 hg2 hgW hxb ht0 HGD
  go_quiet (fail)
  go_upto_region 5 with fail
  have HX3 : RowKit.Hid ((w2.drewN nq).heap[xb]? = some (.cells #[.int .i64 ki, .int .i64 se, .int .i64 ti, .string me, .string ur, .slice A n c, .string bo, .int .i64 st, .int .i64 co, .bool cr, .string no, .int .u64 nn] 34)) := HX2.out
  have HGW3 := Lib.hid (HGW.out.drN nq)
  generalize w2.drewN nq = W at *
  clear HX2 HGW c1 c2 hd
  have hB3 := HB.out.keep HGW3.out
  have c0 : W.cell? ⟨xb, 0, none⟩ = some (.int .i64 ki) := cell_of_heap HX3.out rfl
  have c1 : W.cell? ⟨xb, 1, none⟩ = some (.int .i64 se) := cell_of_heap HX3.out rfl
  have c2 : W.cell? ⟨xb, 2, none⟩ = some (.int .i64 ti) := cell_of_heap HX3.out rfl
  have k1 : W.cell? ⟨p, 1, none⟩ = some (.int .i64 t0) := by rw [← HT0.out]; exact cell_of_heap hB3.cells rfl
  have HB3 := Lib.hid hB3
  clear hB3
  have hn0l := HRB.out.len
  have HRW := Lib.hid (HRB.out.keep HGW3.out)
  have hl1 := leb_len (v := se) (by omega)
  have hl2 := leb_len (v := ti - t0) (by omega)
  have HBS := Lib.hid (fun (u : World) => bytes_any se u (by omega) (by omega))
  have HBT := Lib.hid (fun (u : World) => bytes_any (ti - t0) u (by omega) (by omega))
  obtain ⟨ls, hls⟩ : ∃ l, leb se = l := ⟨_, rfl⟩
  obtain ⟨lt, hlt⟩ : ∃ l, leb (ti - t0) = l := ⟨_, rfl⟩
  rw [hls] at hl1 HBS
  rw [hlt] at hl2 HBT
  obtain ⟨o1, ho1⟩ : ∃ o1, bs ++ [ki] = o1 := ⟨_, rfl⟩
  obtain ⟨o2, ho2⟩ : ∃ o2, (o1 ++ ls) ++ lt = o2 := ⟨_, rfl⟩
  have hm1 : o1.length = n0 + 1 := by rw [← ho1]; simp [hn0l]
  obtain ⟨m2, hm2⟩ : ∃ m2, o2.length = m2 := ⟨_, rfl⟩
  have hb2 : m2 ≤ n0 + 21 := by rw [← hm2, ← ho2]; simp only [List.length_append]; omega
  have HE1 := Lib.hid ho1
  have HE2 := Lib.hid ho2
  have HM1 := Lib.hid hm1
  have HM2 := Lib.hid hm2
  have HN0 := Lib.hid hn0l
  have HLS := Lib.hid hls
  have HLT := Lib.hid hlt
  obtain ⟨q1, hq1⟩ : ∃ q, ls.length = q := ⟨_, rfl⟩
  obtain ⟨q2, hq2⟩ : ∃ q, lt.length = q := ⟨_, rfl⟩
  rw [hq1] at hl1
  rw [hq2] at hl2
  have HQ1 := Lib.hid hq1
  have HQ2 := Lib.hid hq2
  clear ho1 ho2 hm1 hm2 hn0l hls hlt hq1 hq2
  go_cut [8] from 19 to 26 (fun v wx => Own wx W.heap.size v o1 ∧ Grew W wx)
  case first =>
    refine region_ow (w0 := W) [[], [], [(0, 19), (1, 20)], [], [(3, 22)], [(4, 23)], [(5, 24)], [(2, 21), (6, 25)], [(7, 26)]] [(0, 19), (1, 20), (2, 21), (3, 22), (4, 23), (5, 24), (6, 25), (7, 26), (8, 8)] [(2, 0), (7, 2), (8, 7)] [none, none, some 19, none, none, none, none, some 21, some 26] [0, 2, 6, 7, 8] (fun
      | 0 => .ow [] | 1 => .eqv (.slice A0 n0 d0) | 2 => .ow bs | 3 => .eqv (.pointer (some ⟨xb, 0, none⟩)) | 4 => .eqv (.int .i64 ki) | 5 => .eqv (.int .u8 ki) | 6 => .ow [ki] | 7 => .ow o1 | 8 => .ow o1 | _ => .any) (by kernel_rfl) (by kernel_rfl) (by kernel_rfl) (Below.refl _ _) ?_ ?_
    · refine ⟨fun u hu => ?_, fun u hu => ?_, fun u hu => ?_, fun u hu => ?_, fun u hu => ?_, fun u hu => ?_, fun u hu => ?_, fun u hu => ?_, fun u hu => ?_, trivial⟩
      · refine StepGoal.nil ?_
        intro hrow
        go_wp2
        exact ⟨rfl, rfl, ((Grew.rf u).al _).gb _, (own_lit0 u).lower hu.size, fun _ => own_fresh (own_lit0 u) rfl⟩
      · refine StepGoal.nil ?_
        intro hrow
        go_wp2
        exact ⟨rfl, rfl, gb_rf _, rfl, fun h => absurd h (by decide)⟩
      · rintro v19 h19 _ rfl
        refine StepGoal.nil ?_
        intro hrow
        simp only [Act.put, List.setIfInBounds_toArray, List.set_cons_zero, List.set_cons_succ]
        go_wp2_with (at_builtin; refine apps2 (.inr rfl) rfl rfl rfl h19 (HRW.out.keep hu) hu.size (by simp; omega) ?_; intro v3 w3 ho3 hg3 hat3; rw [List.nil_append] at ho3)
        exact ⟨rfl, rfl, hg3, ho3, fun _ => hat3⟩
      · refine StepGoal.nil ?_
        intro hrow
        go_wp2
        exact ⟨rfl, rfl, gb_rf _, rfl, fun h => absurd h (by decide)⟩
      · rintro _ rfl
        have hce := Grew.ce hu c0
        refine StepGoal.nil ?_
        intro hrow
        simp only [Act.put, List.setIfInBounds_toArray, List.set_cons_zero, List.set_cons_succ]
        go_wp2
        exact ⟨rfl, rfl, gb_rf _, rfl, fun h => absurd h (by decide)⟩
      · rintro _ rfl
        refine StepGoal.nil ?_
        intro hrow
        simp only [Act.put, List.setIfInBounds_toArray, List.set_cons_zero, List.set_cons_succ]
        go_wp2
        exact ⟨rfl, rfl, gb_rf _, rfl, fun h => absurd h (by decide)⟩
      · rintro _ rfl
        have ho := own_litK 5 .u8 u u.heap.size [ki] (Nat.le_refl _) (by simp)
        refine StepGoal.nil ?_
        intro hrow
        simp only [Act.put, List.setIfInBounds_toArray, List.set_cons_zero, List.set_cons_succ]
        go_wp2
        exact ⟨rfl, rfl, ((Grew.rf u).al _).gb _, ho.lower hu.size, fun _ => own_fresh ho rfl⟩
      · rintro v21 h21 v25 h25
        obtain ⟨A7, c7, rfl, _, _, hr7⟩ := h25.rd' (n := 1) rfl
        refine StepGoal.nil ?_
        intro hrow
        simp only [Act.put, List.setIfInBounds_toArray, List.set_cons_zero, List.set_cons_succ]
        go_wp2_with (at_builtin; refine apps2 (.inr rfl) rfl rfl rfl h21 hr7 hu.size (by rw [HN0.out]; omega) ?_; intro v3 w3 ho3 hg3 hat3; rw [HE1.out] at ho3)
        exact ⟨rfl, rfl, hg3, ho3, fun _ => hat3⟩
      · rintro v26 h26
        refine StepGoal.nil ?_
        intro hrow
        simp only [Act.put, List.setIfInBounds_toArray, List.set_cons_zero, List.set_cons_succ]
        go_wp2
        exact ⟨rfl, rfl, (Grew.rf u).gb _, h26, fun _ b hb => ⟨.inl hb, h26.lt b hb⟩⟩
    · intro u hu
      rintro v19 _ _ rfl v21 _ _ rfl _ rfl _ rfl v25 h25 v26 _ v8 h8
      refine StepGoal.nil ?_
      simp only [Act.put, List.setIfInBounds_toArray, List.set_cons_zero, List.set_cons_succ]
      go_wp2_with fail
      go_meet
      exact ⟨h8, hu⟩
  case rest =>
  obtain ⟨ho1, hgx1⟩ := hcut
  obtain ⟨w1, rfl⟩ : ∃ w1, w1 = wc := ⟨_, rfl⟩
  obtain ⟨A8, c8, rfl, -, -, -⟩ := ho1.rd' HM1.out
  have c1' := hgx1.ce c1
  have c2' := hgx1.ce c2
  have k1' := hgx1.ce k1
  have HG1 := Lib.hid hgx1
  have HO1 := Lib.hid ho1
  clear hgx1 ho1 c0 c1 c2 k1
  go_upto_region 6 with fail
  go_cut [8] from 27 to 42 (fun v wx => Own wx W.heap.size v o2 ∧ Grew W wx)
  case first =>
    refine region_ex (w0 := W) [[], [], [(1, 28)], [(2, 29)], [(3, 30)], [(0, 27), (4, 31)], [], [(6, 33)], [], [(8, 35)], [(9, 36)], [(10, 37)], [(7, 34), (11, 38)], [(12, 39)], [(13, 40)], [(5, 32), (14, 41)], [(0, 27), (15, 42)]] [(0, 27), (1, 28), (2, 29), (3, 30), (4, 31), (5, 32), (6, 33), (7, 34), (8, 35), (9, 36), (10, 37), (11, 38), (12, 39), (13, 40), (14, 41), (15, 42), (16, 8)] [(15, 5), (16, 15)] [none, none, none, none, none, none, none, none, none, none, none, none, none, none, none, some 32, some 42] [4, 5, 14, 15, 16] (fun
      | 0 => .eqv (.slice A8 (n0 + 1) c8) | 1 => .eqv (.pointer (some ⟨xb, 1, none⟩)) | 2 => .eqv (.int .i64 se) | 3 => .eqv (.int .u64 se) | 4 => .ow ls | 5 => .ow (o1 ++ ls) | 6 => .eqv (.pointer (some ⟨xb, 2, none⟩)) | 7 => .eqv (.int .i64 ti) | 8 => .eqv (.pointer (some ⟨p, 0, none⟩)) | 9 => .eqv (.pointer (some ⟨p, 0, none⟩)) | 10 => .eqv (.pointer (some ⟨p, 1, none⟩)) | 11 => .eqv (.int .i64 t0) | 12 => .eqv (.int .i64 (ti - t0)) | 13 => .eqv (.int .u64 (ti - t0)) | 14 => .ow lt | 15 => .ow o2 | 16 => .ow o2 | _ => .any) 5 (.slice A8 (n0 + 1) c8) o1 (by kernel_rfl) (by kernel_rfl) (by kernel_rfl) (by kernel_rfl) HO1.out HG1.out.size ?_ ?_
    · refine ⟨fun u hu hx => ?_, fun u hu hx => ?_, fun u hu hx => ?_, fun u hu hx => ?_, fun u hu hx => ?_, fun u hu hx => ?_, fun u hu hx => ?_, fun u hu hx => ?_, fun u hu hx => ?_, fun u hu hx => ?_, fun u hu hx => ?_, fun u hu hx => ?_, fun u hu hx => ?_, fun u hu hx => ?_, fun u hu hx => ?_, fun u hu hx => ?_, fun u hu hx => ?_, trivial⟩
      · clear hx
        have hu2 : Grew W u := below_of_row HG1.out HO1.out rfl hu
        refine StepGoal.nil ?_
        intro hrow
        go_wp2
        exact ⟨rfl, rfl, gb_rf _, rfl, fun h => absurd h (by decide)⟩
      · clear hx
        have hu2 : Grew W u := below_of_row HG1.out HO1.out rfl hu
        refine StepGoal.nil ?_
        intro hrow
        go_wp2
        exact ⟨rfl, rfl, gb_rf _, rfl, fun h => absurd h (by decide)⟩
      · clear hx
        have hu2 : Grew W u := below_of_row HG1.out HO1.out rfl hu
        rintro _ rfl
        have hce : u.cell? ⟨xb, 1, none⟩ = _ := hu2.ce (cell_of_heap HX3.out rfl)
        refine StepGoal.nil ?_
        intro hrow
        simp only [Act.put, List.setIfInBounds_toArray, List.set_cons_zero, List.set_cons_succ]
        go_wp2
        exact ⟨rfl, rfl, gb_rf _, rfl, fun h => absurd h (by decide)⟩
      · clear hx
        have hu2 : Grew W u := below_of_row HG1.out HO1.out rfl hu
        rintro _ rfl
        refine StepGoal.nil ?_
        intro hrow
        simp only [Act.put, List.setIfInBounds_toArray, List.set_cons_zero, List.set_cons_succ]
        go_wp2
        exact ⟨rfl, rfl, gb_rf _, rfl, fun h => absurd h (by decide)⟩
      · clear hx
        have hu2 : Grew W u := below_of_row HG1.out HO1.out rfl hu
        rintro _ rfl
        refine StepGoal.nil ?_
        intro hrow
        simp only [Act.put, List.setIfInBounds_toArray, List.set_cons_zero, List.set_cons_succ]
        go_wp2_with (go_at_call 48; refine Calls.mono (HBS.out _) ?_; rintro e w1 ⟨x, rfl, ho, hg⟩)
        exact ⟨rfl, rfl, hg.gb _, ho.lower hu2.size, fun _ => own_fresh ho rfl⟩
      · have hx := hx rfl
        have hu2 : Grew W u := below_of_row HG1.out HO1.out rfl hu
        rintro _ rfl v31 h31
        obtain ⟨A7, c7, rfl, _, _, hr7⟩ := h31.rd' HQ1.out
        refine StepGoal.nil ?_
        intro hrow
        simp only [Act.put, List.setIfInBounds_toArray, List.set_cons_zero, List.set_cons_succ]
        go_wp2_with (at_builtin; refine apps2 (.inr rfl) rfl rfl rfl hx hr7 hu2.size (by rw [HM1.out]; omega) ?_; intro v3 w3 ho3 hg3 hat3)
        exact ⟨rfl, rfl, hg3, ho3, fun _ => hat3⟩
      · clear hx
        have hu2 : Grew W u := below_of_row HG1.out HO1.out rfl hu
        refine StepGoal.nil ?_
        intro hrow
        go_wp2
        exact ⟨rfl, rfl, gb_rf _, rfl, fun h => absurd h (by decide)⟩
      · clear hx
        have hu2 : Grew W u := below_of_row HG1.out HO1.out rfl hu
        rintro _ rfl
        have hce : u.cell? ⟨xb, 2, none⟩ = _ := hu2.ce (cell_of_heap HX3.out rfl)
        refine StepGoal.nil ?_
        intro hrow
        simp only [Act.put, List.setIfInBounds_toArray, List.set_cons_zero, List.set_cons_succ]
        go_wp2
        exact ⟨rfl, rfl, gb_rf _, rfl, fun h => absurd h (by decide)⟩
      · clear hx
        have hu2 : Grew W u := below_of_row HG1.out HO1.out rfl hu
        refine StepGoal.nil ?_
        intro hrow
        go_wp2
        exact ⟨rfl, rfl, gb_rf _, rfl, fun h => absurd h (by decide)⟩
      · clear hx
        have hu2 : Grew W u := below_of_row HG1.out HO1.out rfl hu
        rintro _ rfl
        refine StepGoal.nil ?_
        intro hrow
        simp only [Act.put, List.setIfInBounds_toArray, List.set_cons_zero, List.set_cons_succ]
        go_wp2
        exact ⟨rfl, rfl, gb_rf _, rfl, fun h => absurd h (by decide)⟩
      · clear hx
        have hu2 : Grew W u := below_of_row HG1.out HO1.out rfl hu
        rintro _ rfl
        refine StepGoal.nil ?_
        intro hrow
        simp only [Act.put, List.setIfInBounds_toArray, List.set_cons_zero, List.set_cons_succ]
        go_wp2
        exact ⟨rfl, rfl, gb_rf _, rfl, fun h => absurd h (by decide)⟩
      · clear hx
        have hu2 : Grew W u := below_of_row HG1.out HO1.out rfl hu
        rintro _ rfl
        have hce : u.cell? ⟨p, 1, none⟩ = some (.int .i64 t0) := by { rw [← HT0.out]; exact hu2.ce (cell_of_heap HB3.out.cells rfl) }
        refine StepGoal.nil ?_
        intro hrow
        simp only [Act.put, List.setIfInBounds_toArray, List.set_cons_zero, List.set_cons_succ]
        go_wp2
        exact ⟨rfl, rfl, gb_rf _, rfl, fun h => absurd h (by decide)⟩
      · clear hx
        have hu2 : Grew W u := below_of_row HG1.out HO1.out rfl hu
        rintro _ rfl _ rfl
        refine StepGoal.nil ?_
        intro hrow
        simp only [Act.put, List.setIfInBounds_toArray, List.set_cons_zero, List.set_cons_succ]
        go_wp2
        exact ⟨rfl, rfl, gb_rf _, rfl, fun h => absurd h (by decide)⟩
      · clear hx
        have hu2 : Grew W u := below_of_row HG1.out HO1.out rfl hu
        rintro _ rfl
        refine StepGoal.nil ?_
        intro hrow
        simp only [Act.put, List.setIfInBounds_toArray, List.set_cons_zero, List.set_cons_succ]
        go_wp2
        exact ⟨rfl, rfl, gb_rf _, rfl, fun h => absurd h (by decide)⟩
      · clear hx
        have hu2 : Grew W u := below_of_row HG1.out HO1.out rfl hu
        rintro _ rfl
        refine StepGoal.nil ?_
        intro hrow
        simp only [Act.put, List.setIfInBounds_toArray, List.set_cons_zero, List.set_cons_succ]
        go_wp2_with (go_at_call 48; refine Calls.mono (HBT.out _) ?_; rintro e w1 ⟨x, rfl, ho, hg⟩)
        exact ⟨rfl, rfl, hg.gb _, ho.lower hu2.size, fun _ => own_fresh ho rfl⟩
      · clear hx
        have hu2 : Grew W u := below_of_row HG1.out HO1.out rfl hu
        rintro v32 h32 v41 h41
        obtain ⟨A7, c7, rfl, _, _, hr7⟩ := h41.rd' HQ2.out
        refine StepGoal.nil ?_
        intro hrow
        simp only [Act.put, List.setIfInBounds_toArray, List.set_cons_zero, List.set_cons_succ]
        go_wp2_with (at_builtin; refine apps2 (.inr rfl) rfl rfl rfl h32 hr7 hu2.size (by rw [List.length_append, HM1.out, HQ1.out]; omega) ?_; intro v3 w3 ho3 hg3 hat3; rw [HE2.out] at ho3)
        exact ⟨rfl, rfl, hg3, ho3, fun _ => hat3⟩
      · clear hx
        have hu2 : Grew W u := below_of_row HG1.out HO1.out rfl hu
        rintro _ rfl v42 h42
        refine StepGoal.nil ?_
        intro hrow
        simp only [Act.put, List.setIfInBounds_toArray, List.set_cons_zero, List.set_cons_succ]
        go_wp2
        exact ⟨rfl, rfl, (Grew.rf u).gb _, h42, fun _ b hb => ⟨.inl hb, h42.lt b hb⟩⟩
    · intro u hu
      rintro _ rfl _ rfl _ rfl _ rfl v31 h31 v32 _ _ rfl _ rfl _ rfl _ rfl _ rfl _ rfl _ rfl _ rfl v41 h41 v42 _ v8 h8
      refine StepGoal.nil ?_
      simp only [Act.put, List.setIfInBounds_toArray, List.set_cons_zero, List.set_cons_succ]
      go_wp2_with fail
      go_meet
      exact ⟨h8, below_of_row HG1.out HO1.out rfl hu⟩
  case rest =>
  obtain ⟨ho2, hgx2⟩ := hcut
  obtain ⟨w2, rfl⟩ : ∃ w2, w2 = wc := ⟨_, rfl⟩
  obtain ⟨A2, d2, rfl, -, -, -⟩ := ho2.rd' HM2.out
  have HG2 := Lib.hid hgx2
  have HO2 := Lib.hid ho2
  clear hgx2 ho2 c1' c2' k1' HO1 HG1 HBS HBT hl1 hl2
  have hnum := HG.out.num
  dsimp only at hnum
  have hnn := HW.out.nn
  dsimp only at hnn
  have HNUM := Lib.hid hnum
  have HNN := Lib.hid hnn
  clear hnum hnn
  -- nCo
  obtain ⟨o3, ho3⟩ : ∃ l, o2 ++ nCo ⟨ki, se, ti, me, ur, hs, bo, st, co, cr, no, nn⟩ = l := ⟨_, rfl⟩
  obtain ⟨m3, hm3⟩ : ∃ l, o3.length = l := ⟨_, rfl⟩
  have hb3 : m3 ≤ n0 + 31 := by
    have hml := HM2.out
    rw [← hm3, ← ho3, List.length_append, hml]
    unfold nCo
    split
    · rename_i hc
      dsimp only at hc ⊢
      have hz : 0 ≤ co ∧ co ≤ 1000 := by have h := HNUM.out 8 (by rcases hc with rfl | rfl | rfl <;> decide); simpa [fldI] using h
      have := leb_len (v := co) hz.1
      omega
    · simp; omega
  have HE3 := Lib.hid ho3
  have HM3 := Lib.hid hm3
  clear ho3 hm3
  have c0 : w2.cell? ⟨xb, 0, none⟩ = some (.int .i64 ki) := cell_of_heap (heap_keep HG2.out HX3.out) rfl
  go_upto_region 7 with fail
  go_cut [55] from 43 to 55 (fun f wx => f = .bool (decide (ki = 1 ∨ ki = 2 ∨ ki = 7)) ∧ w2 = wx)
  case first =>
    by_cases hc : ki = 1 ∨ ki = 2 ∨ ki = 7
    
    · have HC := Lib.hid (decide_eq_true hc)
      rcases hc with rfl | rfl | rfl
      all_goals
        go_wp2_with fail
        go_meet
        exact ⟨by simp, rfl⟩
    · have HC := Lib.hid (decide_eq_false hc)
      obtain ⟨h1, h2, h7⟩ : ¬ (ki = 1) ∧ ¬ (ki = 2) ∧ ¬ (ki = 7) := by omega
      have d1 : (ki == 1) = false := by simpa using h1
      have e1 : decide (ki = 1) = false := by simpa using h1
      have d2 : (ki == 2) = false := by simpa using h2
      have e2 : decide (ki = 2) = false := by simpa using h2
      have d7 : (ki == 7) = false := by simpa using h7
      have e7 : decide (ki = 7) = false := by simpa using h7
      clear hc
      go_wp2_with fail
      go_meet
      exact ⟨by rw [HC.out], rfl⟩
  case rest =>
  obtain ⟨rfl, hwc⟩ := hcut
  subst hwc
  go_upto_if 55 with fail
  go_cut [8] from 55 to 61 (fun v wx => Own wx W.heap.size v o3 ∧ Grew W wx)
  case first =>
    by_cases hc : ki = 1 ∨ ki = 2 ∨ ki = 7
    · rw [decide_eq_true hc]
      have hz : 0 ≤ co ∧ co ≤ 1000 := by have h := HNUM.out 8 (by rcases hc with rfl | rfl | rfl <;> decide); simpa [fldI] using h
      have he : o2 ++ leb co = o3 := by rw [← HE3.out]; simp [nCo, hc]
      have HBY := Lib.hid (fun (u : World) => bytes_any co u (by omega) (by omega))
      have hlz := leb_len (v := co) (by omega)
      obtain ⟨lz, hlzz⟩ : ∃ l, leb co = l := ⟨_, rfl⟩
      rw [hlzz] at he HBY hlz
      obtain ⟨qz, hqz⟩ : ∃ q, lz.length = q := ⟨_, rfl⟩
      rw [hqz] at hlz
      have HQ := Lib.hid hqz
      have HE := Lib.hid he
      have cz : w2.cell? ⟨xb, 8, none⟩ = some (.int .i64 co) := cell_of_heap (heap_keep HG2.out HX3.out) rfl
      clear he hqz hlzz
      rcases hc with rfl | rfl | rfl
      all_goals
        go_wp2_with (first | (go_at_call 48; refine Calls.mono (HBY.out _) ?_; rintro e w3 ⟨v3, rfl, ho3, hg3⟩; obtain ⟨A3, c3, rfl, hc3, hm3, hr3⟩ := ho3.rd' HQ.out; have HRb := Lib.hid hr3; have HGb := Lib.hid hg3; clear hc3 hm3 ho3 hr3 hg3) | ((with_reducible refine gate_b .append #[.tmp 56, .tmp 60] _ rfl ?_); refine apps (w0 := W) rfl rfl rfl rfl (HO2.out.keep HGb.out) HRb.out (HG2.out.tr HGb.out) (Nat.le_trans HG2.out.size HGb.out.size) (by rw [HM2.out]; omega) ?_; intro v4 w4 ho4 hg4 hb4; rw [HE.out] at ho4; have HOz := Lib.hid ho4; have HGz := Lib.hid hg4; clear ho4 hg4 hb4))
        go_meet
        exact ⟨HOz.out, HGz.out⟩
    · rw [decide_eq_false hc]
      have he : o2 = o3 := by rw [← HE3.out]; simp [nCo, hc]
      have HE := Lib.hid he
      have hcc : ¬ (ki = 1) ∧ ¬ (ki = 2) ∧ ¬ (ki = 7) := by omega
      obtain ⟨h1, h2, h7⟩ := hcc
      have d1 : (ki == 1) = false := by simpa using h1
      have e1 : decide (ki = 1) = false := by simpa using h1
      have d2 : (ki == 2) = false := by simpa using h2
      have e2 : decide (ki = 2) = false := by simpa using h2
      have d7 : (ki == 7) = false := by simpa using h7
      have e7 : decide (ki = 7) = false := by simpa using h7
      clear he hc
      go_wp2_with fail
      go_meet
      rw [← HE.out]
      exact ⟨HO2.out, HG2.out⟩
  case rest =>
  obtain ⟨ho3, hgx3⟩ := hcut
  obtain ⟨w3, rfl⟩ : ∃ w2, w2 = wc := ⟨_, rfl⟩
  obtain ⟨A3, d3, rfl, -, -, -⟩ := ho3.rd' HM3.out
  have HG3 := Lib.hid hgx3
  have HO3 := Lib.hid ho3
  clear hgx3 ho3 c0 HO2 HM2 hb2
  -- nSt
  obtain ⟨o4, ho4⟩ : ∃ l, o3 ++ nSt ⟨ki, se, ti, me, ur, hs, bo, st, co, cr, no, nn⟩ = l := ⟨_, rfl⟩
  obtain ⟨m4, hm4⟩ : ∃ l, o4.length = l := ⟨_, rfl⟩
  have hb4 : m4 ≤ n0 + 41 := by
    have hml := HM3.out
    rw [← hm4, ← ho4, List.length_append, hml]
    unfold nSt
    split
    · rename_i hc
      dsimp only at hc ⊢
      have hz : 0 ≤ st ∧ st ≤ 1000 := by have h := HNUM.out 7 (by rcases hc with rfl | rfl <;> decide); simpa [fldI] using h
      have := leb_len (v := st) hz.1
      omega
    · simp; omega
  have HE4 := Lib.hid ho4
  have HM4 := Lib.hid hm4
  clear ho4 hm4
  have c0 : w3.cell? ⟨xb, 0, none⟩ = some (.int .i64 ki) := cell_of_heap (heap_keep HG3.out HX3.out) rfl
  go_upto_region 9 with fail
  go_cut [69] from 62 to 69 (fun f wx => f = .bool (decide (ki = 3 ∨ ki = 7)) ∧ w3 = wx)
  case first =>
    by_cases hc : ki = 3 ∨ ki = 7
    
    · have HC := Lib.hid (decide_eq_true hc)
      rcases hc with rfl | rfl
      all_goals
        go_wp2_with fail
        go_meet
        exact ⟨by simp, rfl⟩
    · have HC := Lib.hid (decide_eq_false hc)
      obtain ⟨h3, h7⟩ : ¬ (ki = 3) ∧ ¬ (ki = 7) := by omega
      have d3 : (ki == 3) = false := by simpa using h3
      have e3 : decide (ki = 3) = false := by simpa using h3
      have d7 : (ki == 7) = false := by simpa using h7
      have e7 : decide (ki = 7) = false := by simpa using h7
      clear hc
      go_wp2_with fail
      go_meet
      exact ⟨by rw [HC.out], rfl⟩
  case rest =>
  obtain ⟨rfl, hwc⟩ := hcut
  subst hwc
  go_upto_if 69 with fail
  go_cut [8] from 69 to 75 (fun v wx => Own wx W.heap.size v o4 ∧ Grew W wx)
  case first =>
    by_cases hc : ki = 3 ∨ ki = 7
    · rw [decide_eq_true hc]
      have hz : 0 ≤ st ∧ st ≤ 1000 := by have h := HNUM.out 7 (by rcases hc with rfl | rfl <;> decide); simpa [fldI] using h
      have he : o3 ++ leb st = o4 := by rw [← HE4.out]; simp [nSt, hc]
      have HBY := Lib.hid (fun (u : World) => bytes_any st u (by omega) (by omega))
      have hlz := leb_len (v := st) (by omega)
      obtain ⟨lz, hlzz⟩ : ∃ l, leb st = l := ⟨_, rfl⟩
      rw [hlzz] at he HBY hlz
      obtain ⟨qz, hqz⟩ : ∃ q, lz.length = q := ⟨_, rfl⟩
      rw [hqz] at hlz
      have HQ := Lib.hid hqz
      have HE := Lib.hid he
      have cz : w3.cell? ⟨xb, 7, none⟩ = some (.int .i64 st) := cell_of_heap (heap_keep HG3.out HX3.out) rfl
      clear he hqz hlzz
      rcases hc with rfl | rfl
      all_goals
        go_wp2_with (first | (go_at_call 48; refine Calls.mono (HBY.out _) ?_; rintro e w3 ⟨v3, rfl, ho3, hg3⟩; obtain ⟨A3, c3, rfl, hc3, hm3, hr3⟩ := ho3.rd' HQ.out; have HRb := Lib.hid hr3; have HGb := Lib.hid hg3; clear hc3 hm3 ho3 hr3 hg3) | ((with_reducible refine gate_b .append #[.tmp 70, .tmp 74] _ rfl ?_); refine apps (w0 := W) rfl rfl rfl rfl (HO3.out.keep HGb.out) HRb.out (HG3.out.tr HGb.out) (Nat.le_trans HG3.out.size HGb.out.size) (by rw [HM3.out]; omega) ?_; intro v4 w4 ho4 hg4 hb4; rw [HE.out] at ho4; have HOz := Lib.hid ho4; have HGz := Lib.hid hg4; clear ho4 hg4 hb4))
        go_meet
        exact ⟨HOz.out, HGz.out⟩
    · rw [decide_eq_false hc]
      have he : o3 = o4 := by rw [← HE4.out]; simp [nSt, hc]
      have HE := Lib.hid he
      have hcc : ¬ (ki = 3) ∧ ¬ (ki = 7) := by omega
      obtain ⟨h3, h7⟩ := hcc
      have d3 : (ki == 3) = false := by simpa using h3
      have e3 : decide (ki = 3) = false := by simpa using h3
      have d7 : (ki == 7) = false := by simpa using h7
      have e7 : decide (ki = 7) = false := by simpa using h7
      clear he hc
      go_wp2_with fail
      go_meet
      rw [← HE.out]
      exact ⟨HO3.out, HG3.out⟩
  case rest =>
  obtain ⟨ho4, hgx4⟩ := hcut
  obtain ⟨w4, rfl⟩ : ∃ w2, w2 = wc := ⟨_, rfl⟩
  obtain ⟨A4, d4, rfl, -, -, -⟩ := ho4.rd' HM4.out
  have HG4 := Lib.hid hgx4
  have HO4 := Lib.hid ho4
  clear hgx4 ho4 c0 HO3 HM3 hb3
  -- nCr
  obtain ⟨o5, ho5⟩ : ∃ l, o4 ++ nCr ⟨ki, se, ti, me, ur, hs, bo, st, co, cr, no, nn⟩ = l := ⟨_, rfl⟩
  obtain ⟨m5, hm5⟩ : ∃ l, o5.length = l := ⟨_, rfl⟩
  have hb5 : m5 ≤ n0 + 42 := by
    have hml := HM4.out
    rw [← hm5, ← ho5, List.length_append, hml]
    unfold nCr
    split
    · simp; omega
    · simp; omega
  have HE5 := Lib.hid ho5
  have HM5 := Lib.hid hm5
  clear ho5 hm5
  have c0 : w4.cell? ⟨xb, 0, none⟩ = some (.int .i64 ki) := cell_of_heap (heap_keep HG4.out HX3.out) rfl
  go_upto_region 11 with fail
  go_cut [82] from 76 to 82 (fun f wx => f = .bool (decide (ki = 2) && cr) ∧ w4 = wx)
  case first =>
    have cz : w4.cell? ⟨xb, 9, none⟩ = some (.bool cr) := cell_of_heap (heap_keep HG4.out HX3.out) rfl
    by_cases hc : ki = 2
    · subst hc
      go_wp2_with fail
      go_meet
      exact ⟨by simp, rfl⟩
    · have d2 : (ki == 2) = false := by simpa using hc
      have e2 : decide (ki = 2) = false := by simpa using hc
      have HC := Lib.hid (decide_eq_false hc)
      clear hc
      go_wp2_with fail
      go_meet
      exact ⟨by rw [HC.out]; simp, rfl⟩
  case rest =>
  obtain ⟨rfl, hwc⟩ := hcut
  subst hwc
  go_upto_if 82 with fail
  go_cut [8] from 82 to 91 (fun v wx => Own wx W.heap.size v o5 ∧ Grew W wx)
  case first =>
    by_cases hc : ki = 2
    · rw [decide_eq_true hc]
      have he : o4 ++ [if cr then (1 : Int) else 0] = o5 := by rw [← HE5.out]; simp [nCr, hc]
      have HE := Lib.hid he
      have hbz := HG4.out.size
      clear he
      subst hc
      cases cr
      all_goals
        simp only [Bool.true_and]
        go_wp2_with (at_builtin; refine app1 (w0 := W) rfl rfl rfl rfl HO4.out HG4.out hbz (by rw [HM4.out]; omega) ?_; intro v6 w6 ho6 hg6 hb6; have HO6 := Lib.hid ho6; have HG6 := Lib.hid hg6; clear ho6 hg6 hb6)
        go_meet
        exact ⟨HE.out ▸ HO6.out, HG6.out⟩
    · rw [decide_eq_false hc, Bool.false_and]
      have he : o4 = o5 := by rw [← HE5.out]; simp [nCr, hc]
      have HE := Lib.hid he
      have d2 : (ki == 2) = false := by simpa using hc
      have e2 : decide (ki = 2) = false := by simpa using hc
      clear he hc
      go_wp2_with fail
      go_meet
      rw [← HE.out]
      exact ⟨HO4.out, HG4.out⟩
  case rest =>
  obtain ⟨ho5, hgx5⟩ := hcut
  obtain ⟨w5, rfl⟩ : ∃ w2, w2 = wc := ⟨_, rfl⟩
  obtain ⟨A5, d5, rfl, -, -, -⟩ := ho5.rd' HM5.out
  have HG5 := Lib.hid hgx5
  have HO5 := Lib.hid ho5
  clear hgx5 ho5 c0 HO4 HM4 hb4
  -- nNn
  obtain ⟨o6, ho6⟩ : ∃ l, o5 ++ nNn ⟨ki, se, ti, me, ur, hs, bo, st, co, cr, no, nn⟩ = l := ⟨_, rfl⟩
  obtain ⟨m6, hm6⟩ : ∃ l, o6.length = l := ⟨_, rfl⟩
  have hb6 : m6 ≤ n0 + 60 := by
    have hml := HM5.out
    rw [← hm6, ← ho6, List.length_append, hml]
    unfold nNn
    split
    · dsimp only
      have := leb_len (v := nn) HNN.out.1
      omega
    · simp; omega
  have HE6 := Lib.hid ho6
  have HM6 := Lib.hid hm6
  clear ho6 hm6
  have c0 : w5.cell? ⟨xb, 0, none⟩ = some (.int .i64 ki) := cell_of_heap (heap_keep HG5.out HX3.out) rfl
  go_upto_region 15 with fail
  go_cut [104] from 92 to 104 (fun f wx => f = .bool (decide (ki = 2 ∨ ki = 5 ∨ ki = 6)) ∧ w5 = wx)
  case first =>
    by_cases hc : ki = 2 ∨ ki = 5 ∨ ki = 6
    
    · have HC := Lib.hid (decide_eq_true hc)
      rcases hc with rfl | rfl | rfl
      all_goals
        go_wp2_with fail
        go_meet
        exact ⟨by simp, rfl⟩
    · have HC := Lib.hid (decide_eq_false hc)
      obtain ⟨h2, h5, h6⟩ : ¬ (ki = 2) ∧ ¬ (ki = 5) ∧ ¬ (ki = 6) := by omega
      have d2 : (ki == 2) = false := by simpa using h2
      have e2 : decide (ki = 2) = false := by simpa using h2
      have d5 : (ki == 5) = false := by simpa using h5
      have e5 : decide (ki = 5) = false := by simpa using h5
      have d6 : (ki == 6) = false := by simpa using h6
      have e6 : decide (ki = 6) = false := by simpa using h6
      clear hc
      go_wp2_with fail
      go_meet
      exact ⟨by rw [HC.out], rfl⟩
  case rest =>
  obtain ⟨rfl, hwc⟩ := hcut
  subst hwc
  go_upto_if 104 with fail
  go_cut [8] from 104 to 109 (fun v wx => Own wx W.heap.size v o6 ∧ Grew W wx)
  case first =>
    by_cases hc : ki = 2 ∨ ki = 5 ∨ ki = 6
    · rw [decide_eq_true hc]
      have hz := HNN.out
      have he : o5 ++ leb nn = o6 := by rw [← HE6.out]; simp [nNn, hc]
      have HBY := Lib.hid (fun (u : World) => bytes_any nn u (by omega) (by omega))
      have hlz := leb_len (v := nn) (by omega)
      obtain ⟨lz, hlzz⟩ : ∃ l, leb nn = l := ⟨_, rfl⟩
      rw [hlzz] at he HBY hlz
      obtain ⟨qz, hqz⟩ : ∃ q, lz.length = q := ⟨_, rfl⟩
      rw [hqz] at hlz
      have HQ := Lib.hid hqz
      have HE := Lib.hid he
      have cz : w5.cell? ⟨xb, 11, none⟩ = some (.int .u64 nn) := cell_of_heap (heap_keep HG5.out HX3.out) rfl
      clear he hqz hlzz
      rcases hc with rfl | rfl | rfl
      all_goals
        go_wp2_with (first | (go_at_call 48; refine Calls.mono (HBY.out _) ?_; rintro e w3 ⟨v3, rfl, ho3, hg3⟩; obtain ⟨A3, c3, rfl, hc3, hm3, hr3⟩ := ho3.rd' HQ.out; have HRb := Lib.hid hr3; have HGb := Lib.hid hg3; clear hc3 hm3 ho3 hr3 hg3) | ((with_reducible refine gate_b .append #[.tmp 105, .tmp 108] _ rfl ?_); refine apps (w0 := W) rfl rfl rfl rfl (HO5.out.keep HGb.out) HRb.out (HG5.out.tr HGb.out) (Nat.le_trans HG5.out.size HGb.out.size) (by rw [HM5.out]; omega) ?_; intro v4 w4 ho4 hg4 hb4; rw [HE.out] at ho4; have HOz := Lib.hid ho4; have HGz := Lib.hid hg4; clear ho4 hg4 hb4))
        go_meet
        exact ⟨HOz.out, HGz.out⟩
    · rw [decide_eq_false hc]
      have he : o5 = o6 := by rw [← HE6.out]; simp [nNn, hc]
      have HE := Lib.hid he
      have hcc : ¬ (ki = 2) ∧ ¬ (ki = 5) ∧ ¬ (ki = 6) := by omega
      obtain ⟨h2, h5, h6⟩ := hcc
      have d2 : (ki == 2) = false := by simpa using h2
      have e2 : decide (ki = 2) = false := by simpa using h2
      have d5 : (ki == 5) = false := by simpa using h5
      have e5 : decide (ki = 5) = false := by simpa using h5
      have d6 : (ki == 6) = false := by simpa using h6
      have e6 : decide (ki = 6) = false := by simpa using h6
      clear he hc
      go_wp2_with fail
      go_meet
      rw [← HE.out]
      exact ⟨HO5.out, HG5.out⟩
  case rest =>
  obtain ⟨ho6, hgx6⟩ := hcut
  obtain ⟨w6, rfl⟩ : ∃ w2, w2 = wc := ⟨_, rfl⟩
  obtain ⟨A6, d6, rfl, -, -, -⟩ := ho6.rd' HM6.out
  have HG6 := Lib.hid hgx6
  have HO6 := Lib.hid ho6
  clear hgx6 ho6 c0 HO5 HM5 hb5
  -- the texts
  have hK60 := HB.out.few
  have K60 := Lib.hid hK60
  have hG6w : Grew w w6 := HGW3.out.tr HG6.out
  have hT6 : RTabO w tp lv o6 s.ts (n0 + 60) lv (.slice A6 m6 d6) w6 := ⟨HB.out.tab.keep hG6w, fun k h => .inl h, OutP.own HO6.out HGW3.out.size (by rw [HM6.out]; omega), Chg.of hG6w⟩
  have hx6 := heap_keep HG6.out HX3.out
  have HT6 := Lib.hid hT6
  have HX6 := Lib.hid hx6
  have hme := HG.out.me
  have hur := HG.out.ur
  have hno := HG.out.no
  have hbo := HG.out.bo
  dsimp only at hme hur hno hbo
  have HCELLS := Lib.hid HB.out.cells
  have HAP := Lib.hid HB.out.apart
  clear hT6 hx6 hG6w hK60 HO6 HG2 HG3 HG4 HG5 HG6 HB3 HX3
  have hsl6 : s.ts.length ≤ 60 * k := K60.out
  obtain ⟨us7, hus7⟩ : ∃ us, putTs s.ts (tF ⟨ki, se, ti, me, ur, hs, bo, st, co, cr, no, nn⟩) = us := ⟨_, rfl⟩
  obtain ⟨o7, ho7⟩ : ∃ l, o6 ++ us7.1 = l := ⟨_, rfl⟩
  have hul7 : us7.2.length ≤ 60 * k + 2 := by
    rw [← hus7]
    have := putTs_len (tF ⟨ki, se, ti, me, ur, hs, bo, st, co, cr, no, nn⟩) s.ts (fun t ht => by unfold tF at ht; split at ht <;> simp at ht; rcases ht with rfl | rfl <;> omega) (by unfold tF; split <;> simp <;> omega)
    have h2 : (tF ⟨ki, se, ti, me, ur, hs, bo, st, co, cr, no, nn⟩).length ≤ 2 := by unfold tF; split <;> simp
    omega
  have HUS7 := Lib.hid hus7
  have HE7 := Lib.hid ho7
  have c0 : w6.cell? ⟨xb, 0, none⟩ = some (.int .i64 ki) := cell_of_heap HX6.out rfl
  clear hus7 ho7
  go_upto_region 17 with fail
  go_cut [117] from 110 to 117 (fun f wx => f = .bool (decide (ki = 1 ∨ ki = 2)) ∧ w6 = wx)
  case first =>
    by_cases hc : ki = 1 ∨ ki = 2
    
    · have HC := Lib.hid (decide_eq_true hc)
      rcases hc with rfl | rfl
      all_goals
        go_wp2_with fail
        go_meet
        exact ⟨by simp, rfl⟩
    · have HC := Lib.hid (decide_eq_false hc)
      obtain ⟨h1, h2⟩ : ¬ (ki = 1) ∧ ¬ (ki = 2) := by omega
      have d1 : (ki == 1) = false := by simpa using h1
      have e1 : decide (ki = 1) = false := by simpa using h1
      have d2 : (ki == 2) = false := by simpa using h2
      have e2 : decide (ki = 2) = false := by simpa using h2
      clear hc
      go_wp2_with fail
      go_meet
      exact ⟨by rw [HC.out], rfl⟩
  case rest =>
  obtain ⟨rfl, hwc⟩ := hcut
  subst hwc
  go_upto_if 117 with fail
  go_cut [8] from 117 to 132 (fun v wx => ∃ l', RTabO w tp lv o7 us7.2 (n0 + 60 + 20040) l' v wx ∧ wx.heap[xb]? = some (.cells #[.int .i64 ki, .int .i64 se, .int .i64 ti, .string me, .string ur, .slice A n c, .string bo, .int .i64 st, .int .i64 co, .bool cr, .string no, .int .u64 nn] 34))
  case first =>
    by_cases hc : ki = 1 ∨ ki = 2
    · rw [decide_eq_true hc]
      have hus : putTs s.ts (tF ⟨ki, se, ti, me, ur, hs, bo, st, co, cr, no, nn⟩) = putTs s.ts [me, ur] := by simp [tF, hc]
      rw [putTs_two] at hus
      have hp1 := putT_len2 s.ts me (by omega) (by omega)
      obtain ⟨us1, hus1⟩ : ∃ us1, (putT s.ts me).2 = us1 := ⟨_, rfl⟩
      rw [hus1] at hus hp1
      have hp2 := putT_len2 us1 ur (by omega) (by omega)
      obtain ⟨us2, hus2⟩ : ∃ us2, (putT us1 ur).2 = us2 := ⟨_, rfl⟩
      rw [hus2] at hus hp2
      obtain ⟨o1', ho1⟩ : ∃ o1', o6 ++ (putT s.ts me).1 = o1' := ⟨_, rfl⟩
      obtain ⟨o2', ho2⟩ : ∃ o2', o1' ++ (putT us1 ur).1 = o2' := ⟨_, rfl⟩
      have hE : o2' = o7 ∧ us2 = us7.2 := by
        rw [HUS7.out] at hus
        refine ⟨?_, by rw [hus]⟩
        rw [← HE7.out, hus, ← ho2, ← ho1]
        simp only [List.append_assoc]
      have hm1' : o1'.length ≤ n0 + 60 + 10020 := by rw [← ho1, List.length_append, HM6.out]; have := HT6.out.out; obtain ⟨B, m, d, e, -, -, -, -, -, hm⟩ := this; cases e; omega
      have hrd6 : Rd w6 A6 m6 o6 ∧ m6 ≤ n0 + 60 := by obtain ⟨B, m, d, e, -, -, h, -, -, hm⟩ := HT6.out.out; cases e; exact ⟨h, hm⟩
      have hm2' : o2'.length ≤ n0 + 60 + 20040 := by rw [← ho2, List.length_append]; omega
      have hP1 := fun (u : World) (h : RefI u tp lv s.ts) (h2 : Rd u A6 m6 o6) => rput_any tp lv s.ts me A6 m6 d6 o6 u h h2 (by omega) (by omega) (by omega)
      have hP2 := fun (u : World) (l : Value) (A : Option Addr) (n c : Nat) (h : RefI u tp l us1) (h2 : Rd u A n o1') => rput_any tp l us1 ur A n c o1' u h h2 (by omega) (by have := h2.len; omega) (by omega)
      rw [ho1, hus1] at hP1
      rw [ho2, hus2] at hP2
      have HP1 := Lib.hid hP1
      have HP2 := Lib.hid hP2
      have HE := Lib.hid hE
      have HM2' := Lib.hid hm2'
      have hT0 : RefI w6 tp lv s.ts ∧ Rd w6 A6 m6 o6 := ⟨HT6.out.tab, hrd6.1⟩
      have hcu : ∀ u, PairR w6 tp lv u → u.heap[xb]? = some (.cells #[.int .i64 ki, .int .i64 se, .int .i64 ti, .string me, .string ur, .slice A n c, .string bo, .int .i64 st, .int .i64 co, .bool cr, .string no, .int .u64 nn] 34) ∧ u.heap[p]? = some (.cells #[.pointer (some ⟨tp, 0, none⟩), .int .i64 s.ti, LV] 87) := fun u h =>
        ⟨h.chg.by_ HX6.out (ftr_other HT6.out.tab HX6.out (by decide) (by decide)), h.chg.by_ (HT6.out.chg.by_ HCELLS.out HAP.out.2.1) HAP.out.2.1⟩
      have HCU := Lib.hid hcu
      have hS : TwoK false true (GPR w6 tp lv) (GPR w6 tp lv) (fun u => RefI u tp lv s.ts ∧ Rd u A6 m6 o6) (fun _ => True) (PairR w6 tp lv) :=
        ⟨fun _ _ h hg => h.b0 hg, fun _ _ h hg => h.b1 hg, fun _ _ h hg => h.b1 hg, fun _ _ h hg => ⟨h.1.keep hg, h.2.keep hg⟩, (fun h => by cases h), (fun _ _ _ _ => trivial), (fun _ _ _ _ _ => trivial)⟩
      have hB0 : PairR w6 tp lv w6 := ⟨Chg.of (Grew.rf w6)⟩
      clear hus hp1 hp2 hus1 hus2 ho1 ho2 hE hm1' hP1 hP2 hcu hm2' hrd6
      rcases hc with rfl | rfl
      all_goals
        go_upto_region 18 with fail
        clear c0
        refine region_twok 11 14 hS hB0 hT0 trivial [(14, 11)] [[], [(0, 118)], [(1, 119)], [(2, 120)], [], [(4, 122)], [(5, 123)], [(6, 124)], [], [], [(9, 127)], [(7, 125), (8, 126), (10, 128)], [], [(12, 130)], [(3, 121), (11, 129), (13, 131)], [(8, 126), (14, 132)]] [(0, 118), (1, 119), (2, 120), (3, 121), (4, 122), (5, 123), (6, 124), (7, 125), (8, 126), (9, 127), (10, 128), (11, 129), (12, 130), (13, 131), (14, 132), (15, 8)] (fun
          | 0 => .eqv (.pointer (some ⟨p, 0, none⟩)) | 1 => .eqv (.pointer (some ⟨p, 0, none⟩)) | 2 => .eqv (.pointer (some ⟨p, 0, none⟩)) | 3 => .eqv (.pointer (some ⟨tp, 0, none⟩)) | 4 => .eqv (.pointer (some ⟨p, 0, none⟩)) | 5 => .eqv (.pointer (some ⟨p, 0, none⟩)) | 6 => .eqv (.pointer (some ⟨p, 0, none⟩)) | 7 => .eqv (.pointer (some ⟨tp, 0, none⟩)) | 8 => .eqv (.slice A6 m6 d6) | 9 => .eqv (.pointer (some ⟨xb, 3, none⟩)) | 10 => .eqv (.string me) | 11 => pxRP w6 tp lv o1' us1 | 12 => .eqv (.pointer (some ⟨xb, 4, none⟩)) | 13 => .eqv (.string ur) | 14 => pxRP w6 tp lv o2' us2 | 15 => pxRP w6 tp lv o2' us2 | _ => .any) rfl (by kernel_rfl) (by kernel_rfl) ?_ ?_
        · refine ⟨fun u hu hx => ?_, fun u hu hx => ?_, fun u hu hx => ?_, fun u hu hx => ?_, fun u hu hx => ?_, fun u hu hx => ?_, fun u hu hx => ?_, fun u hu hx => ?_, fun u hu hx => ?_, fun u hu hx => ?_, fun u hu hx => ?_, fun u hu hx => ?_, fun u hu hx => ?_, fun u hu hx => ?_, fun u hu hx => ?_, fun u hu hx => ?_, trivial⟩
          · refine StepGoal.nil ?_
            go_wp2
            exact ⟨rfl, rfl, Grew.rf _, rfl⟩
          · rintro _ rfl
            refine StepGoal.nil ?_
            simp only [Act.put, List.setIfInBounds_toArray, List.set_cons_zero, List.set_cons_succ]
            go_wp2
            exact ⟨rfl, rfl, Grew.rf _, rfl⟩
          · rintro _ rfl
            refine StepGoal.nil ?_
            simp only [Act.put, List.setIfInBounds_toArray, List.set_cons_zero, List.set_cons_succ]
            go_wp2
            exact ⟨rfl, rfl, Grew.rf _, rfl⟩
          · rintro _ rfl
            have hce : u.cell? ⟨p, 0, none⟩ = _ := cell_of_heap (HCU.out u hu).2 rfl
            refine StepGoal.nil ?_
            simp only [Act.put, List.setIfInBounds_toArray, List.set_cons_zero, List.set_cons_succ]
            go_wp2
            exact ⟨rfl, rfl, Grew.rf _, rfl⟩
          · refine StepGoal.nil ?_
            go_wp2
            exact ⟨rfl, rfl, Grew.rf _, rfl⟩
          · rintro _ rfl
            refine StepGoal.nil ?_
            simp only [Act.put, List.setIfInBounds_toArray, List.set_cons_zero, List.set_cons_succ]
            go_wp2
            exact ⟨rfl, rfl, Grew.rf _, rfl⟩
          · rintro _ rfl
            refine StepGoal.nil ?_
            simp only [Act.put, List.setIfInBounds_toArray, List.set_cons_zero, List.set_cons_succ]
            go_wp2
            exact ⟨rfl, rfl, Grew.rf _, rfl⟩
          · rintro _ rfl
            have hce : u.cell? ⟨p, 0, none⟩ = _ := cell_of_heap (HCU.out u hu).2 rfl
            refine StepGoal.nil ?_
            simp only [Act.put, List.setIfInBounds_toArray, List.set_cons_zero, List.set_cons_succ]
            go_wp2
            exact ⟨rfl, rfl, Grew.rf _, rfl⟩
          · refine StepGoal.nil ?_
            go_wp2
            exact ⟨rfl, rfl, Grew.rf _, rfl⟩
          · refine StepGoal.nil ?_
            go_wp2
            exact ⟨rfl, rfl, Grew.rf _, rfl⟩
          · rintro _ rfl
            have hce : u.cell? ⟨xb, 3, none⟩ = some (.string me) := cell_of_heap (HCU.out u hu).1 rfl
            refine StepGoal.nil ?_
            simp only [Act.put, List.setIfInBounds_toArray, List.set_cons_zero, List.set_cons_succ]
            go_wp2
            exact ⟨rfl, rfl, Grew.rf _, rfl⟩
          · rintro _ rfl _ rfl _ rfl
            have hx1 : RefI u tp lv s.ts ∧ Rd u A6 m6 o6 := hx
            refine StepGoal.nil ?_
            simp only [Act.put, List.setIfInBounds_toArray, List.set_cons_zero, List.set_cons_succ]
            go_wp2_with (go_at_call 24; refine Calls.mono (HP1.out _ hx1.1 hx1.2) ?_; rintro e w' ⟨B, m, d, rfl, Q⟩)
            exact ⟨rfl, rfl, GPR.of1 Q, RPutW.of Q hu.chg.size⟩
          · refine StepGoal.nil ?_
            go_wp2
            exact ⟨rfl, rfl, Grew.rf _, rfl⟩
          · rintro _ rfl
            have hce : u.cell? ⟨xb, 4, none⟩ = some (.string ur) := cell_of_heap (HCU.out u hu).1 rfl
            refine StepGoal.nil ?_
            simp only [Act.put, List.setIfInBounds_toArray, List.set_cons_zero, List.set_cons_succ]
            go_wp2
            exact ⟨rfl, rfl, Grew.rf _, rfl⟩
          · rintro _ rfl v129 h129 _ rfl
            obtain ⟨B5, m5, d5, rfl, r5, _, _, _, q5, l5, T5, f5⟩ : RPutW w6 tp lv o1' us1 v129 u := h129
            refine StepGoal.nil ?_
            simp only [Act.put, List.setIfInBounds_toArray, List.set_cons_zero, List.set_cons_succ]
            go_wp2_with (go_at_call 24; refine Calls.mono (HP2.out _ l5 B5 m5 d5 T5 r5) ?_; rintro e w' ⟨B, m, d, rfl, Q⟩)
            exact ⟨rfl, rfl, GPR.of2 Q f5, RPutW.of2 Q hu.chg.size f5⟩
          · rintro _ rfl v132 h132
            refine StepGoal.nil ?_
            simp only [Act.put, List.setIfInBounds_toArray, List.set_cons_zero, List.set_cons_succ]
            go_wp2
            exact ⟨rfl, rfl, Grew.rf _, h132⟩
        · intro u hu
          rintro _ rfl _ rfl _ rfl _ rfl _ rfl _ rfl _ rfl _ rfl _ rfl _ rfl _ rfl v129 _ _ rfl _ rfl v132 h132 v8 h8
          refine StepGoal.nil ?_
          simp only [Act.put, List.setIfInBounds_toArray, List.set_cons_zero, List.set_cons_succ]
          obtain ⟨B6, n6, c6, rfl, r6, e6, x6, s6, q6, l6, T6, f6⟩ : RPutW w6 tp lv o2' us2 v8 u := h8
          have hsz6 := HT6.out.chg.size
          have hn6 := r6.len
          have hfin : RTabO w tp lv o7 us7.2 (n0 + 60 + 20040) l6 (.slice B6 n6 c6) u := by
            rw [← HE.out.1, ← HE.out.2]
            exact ⟨T6, fun j hj => (f6 j hj).imp (fun h => h) (fun h => by omega), ⟨B6, n6, c6, rfl, e6, x6, r6, s6.mono hsz6, q6, by have := HM2'.out; omega⟩, HT6.out.chg.tr (hu.chg.mono fun j hj => .inl hj)⟩
          have HF := Lib.hid hfin
          have HXU := Lib.hid (HCU.out u hu).1
          clear hfin r6 T6 f6 hn6 hsz6 hS hB0 hT0 hu
          go_wp2_with fail
          go_meet
          exact ⟨l6, HF.out, HXU.out⟩
    · rw [decide_eq_false hc]
      have hcc : ¬ (ki = 1) ∧ ¬ (ki = 2) := by omega
      have he : tF ⟨ki, se, ti, me, ur, hs, bo, st, co, cr, no, nn⟩ = [] := by simp [tF, hc]
      have hus : us7 = ([], s.ts) := by rw [← HUS7.out, he]; rfl
      have hoe : o7 = o6 := by rw [← HE7.out, hus]; simp
      obtain ⟨h1, h2⟩ := hcc
      have d1 : (ki == 1) = false := by simpa using h1
      have d2 : (ki == 2) = false := by simpa using h2
      have e1 : decide (ki = 1) = false := by simpa using h1
      have e2 : decide (ki = 2) = false := by simpa using h2
      have HUE := Lib.hid hus
      have HOE := Lib.hid hoe
      clear he hus hoe hc
      go_wp2_with fail
      go_meet
      rw [HUE.out, HOE.out]
      obtain ⟨h1, h2, ⟨B, m, d, a1, a2, a3, a4, a5, a6, a7⟩, h5⟩ := HT6.out
      exact ⟨lv, ⟨h1, h2, ⟨B, m, d, a1, a2, a3, a4, a5, a6, by omega⟩, h5⟩, HX6.out⟩
  case rest =>
  obtain ⟨l7, hT7, hx7⟩ := hcut
  obtain ⟨w7, rfl⟩ : ∃ w2, w2 = wc := ⟨_, rfl⟩
  have HT7 := Lib.hid hT7
  have HX7 := Lib.hid hx7
  clear hT7 hx7 c0 HT6 HX6
  obtain ⟨us8, hus8⟩ : ∃ us, putTs us7.2 (tG ⟨ki, se, ti, me, ur, hs, bo, st, co, cr, no, nn⟩) = us := ⟨_, rfl⟩
  obtain ⟨o8, ho8⟩ : ∃ l, o7 ++ us8.1 = l := ⟨_, rfl⟩
  have hul8 : us8.2.length ≤ 60 * k + 3 := by
    rw [← hus8]
    have := putTs_len (tG ⟨ki, se, ti, me, ur, hs, bo, st, co, cr, no, nn⟩) us7.2 (fun t ht => by unfold tG at ht; split at ht <;> simp at ht; subst ht; omega) (by unfold tG; split <;> simp <;> omega)
    have h2 : (tG ⟨ki, se, ti, me, ur, hs, bo, st, co, cr, no, nn⟩).length ≤ 1 := by unfold tG; split <;> simp
    omega
  have HUS8 := Lib.hid hus8
  have HE8 := Lib.hid ho8
  have c0 : w7.cell? ⟨xb, 0, none⟩ = some (.int .i64 ki) := cell_of_heap HX7.out rfl
  clear hus8 ho8
  go_upto_region 19 with fail
  go_cut [135] from 133 to 135 (fun f wx => f = .bool (decide (ki = 1)) ∧ w7 = wx)
  case first =>
    by_cases hc : ki = 1
    
    · subst hc
      go_wp2_with fail
      go_meet
      exact ⟨by simp, rfl⟩
    · have HC := Lib.hid (decide_eq_false hc)
      have h1 := hc
      have d1 : (ki == 1) = false := by simpa using h1
      have e1 : decide (ki = 1) = false := by simpa using h1
      clear hc
      go_wp2_with fail
      go_meet
      exact ⟨by rw [HC.out], rfl⟩
  case rest =>
  obtain ⟨rfl, hwc⟩ := hcut
  subst hwc
  go_upto_if 135 with fail
  go_cut [8] from 135 to 143 (fun v wx => ∃ l', RTabO w tp lv o8 us8.2 (n0 + 60 + 20040 + 10020) l' v wx ∧ wx.heap[xb]? = some (.cells #[.int .i64 ki, .int .i64 se, .int .i64 ti, .string me, .string ur, .slice A n c, .string bo, .int .i64 st, .int .i64 co, .bool cr, .string no, .int .u64 nn] 34))
  case first =>
    by_cases hc : ki = 1
    · rw [decide_eq_true hc]
      have hus : putTs us7.2 (tG ⟨ki, se, ti, me, ur, hs, bo, st, co, cr, no, nn⟩) = ((putT us7.2 no).1, (putT us7.2 no).2) := by simp [tG, hc, putTs]
      have hp1 := putT_len2 us7.2 no (by omega) (by omega)
      have hE : o7 ++ (putT us7.2 no).1 = o8 ∧ (putT us7.2 no).2 = us8.2 := by
        rw [HUS8.out] at hus
        refine ⟨?_, by rw [hus]⟩
        rw [← HE8.out, hus]
      obtain ⟨B, m, d, hve, hle, hcap, hrd, hfr, hu8, hmN⟩ := HT7.out.out
      subst hve
      have hml := hrd.len
      have hP1 := fun (u : World) (h : RefI u tp l7 us7.2) (h2 : Rd u B m o7) => rput_any tp l7 us7.2 no B m d o7 u h h2 (by omega) (by omega) (by omega)
      rw [hE.1, hE.2] at hP1
      have hm2' : o8.length ≤ n0 + 60 + 20040 + 10020 := by rw [← hE.1, List.length_append, hml]; omega
      have HM2' := Lib.hid hm2'
      have HP1 := Lib.hid hP1
      have HRD := Lib.hid hrd
      have p0 : w7.cell? ⟨p, 0, none⟩ = some (.pointer (some ⟨tp, 0, none⟩)) := cell_of_heap (HT7.out.chg.by_ HCELLS.out HAP.out.2.1) rfl
      have ct : w7.cell? ⟨xb, 10, none⟩ = some (.string no) := cell_of_heap HX7.out rfl
      clear hus hp1 hE hle hcap hrd hfr hu8 hmN hml hP1 hm2'
      subst hc
      go_upto_region 20 with fail
      clear c0
      refine region_split 7 [[], [(0, 136)], [(0, 136), (1, 137)], [(0, 136), (1, 137), (2, 138)], [], [], [(5, 141)], [(0, 136), (1, 137), (2, 138), (3, 139), (4, 140), (5, 141), (6, 142)], [(0, 136), (1, 137), (2, 138), (3, 139), (4, 140), (5, 141), (6, 142), (7, 143)]] [(0, 136), (1, 137), (2, 138), (3, 139), (4, 140), (5, 141), (6, 142)] (fun
        | 0 => .eqv (.pointer (some ⟨p, 0, none⟩)) | 1 => .eqv (.pointer (some ⟨p, 0, none⟩)) | 2 => .eqv (.pointer (some ⟨p, 0, none⟩)) | 3 => .eqv (.pointer (some ⟨tp, 0, none⟩)) | 4 => .eqv (.slice B m d) | 5 => .eqv (.pointer (some ⟨xb, 10, none⟩)) | 6 => .eqv (.string no) | _ => .any) (by kernel_rfl) ?_ ?_
      · refine ⟨fun u hu => ?_, fun u hu => ?_, fun u hu => ?_, fun u hu => ?_, fun u hu => ?_, fun u hu => ?_, fun u hu => ?_, trivial⟩
        · refine StepGoal.nil ?_
          go_wp2
          exact ⟨rfl, rfl, Grew.rf _, rfl⟩
        · rintro _ rfl
          refine StepGoal.nil ?_
          simp only [Act.put, List.setIfInBounds_toArray, List.set_cons_zero, List.set_cons_succ]
          go_wp2
          exact ⟨rfl, rfl, Grew.rf _, rfl⟩
        · rintro _ rfl _ rfl
          refine StepGoal.nil ?_
          simp only [Act.put, List.setIfInBounds_toArray, List.set_cons_zero, List.set_cons_succ]
          go_wp2
          exact ⟨rfl, rfl, Grew.rf _, rfl⟩
        · rintro _ rfl _ rfl _ rfl
          have hce := hu.ce p0
          refine StepGoal.nil ?_
          simp only [Act.put, List.setIfInBounds_toArray, List.set_cons_zero, List.set_cons_succ]
          go_wp2
          exact ⟨rfl, rfl, Grew.rf _, rfl⟩
        · refine StepGoal.nil ?_
          go_wp2
          exact ⟨rfl, rfl, Grew.rf _, rfl⟩
        · refine StepGoal.nil ?_
          go_wp2
          exact ⟨rfl, rfl, Grew.rf _, rfl⟩
        · rintro _ rfl
          have hce := hu.ce ct
          refine StepGoal.nil ?_
          simp only [Act.put, List.setIfInBounds_toArray, List.set_cons_zero, List.set_cons_succ]
          go_wp2
          exact ⟨rfl, rfl, Grew.rf _, rfl⟩
      · intro u hu
        rintro _ rfl _ rfl _ rfl _ rfl _ rfl _ rfl _ rfl
        refine StepGoal.nil ?_
        simp only [Act.put, List.setIfInBounds_toArray, List.set_cons_zero, List.set_cons_succ]; simp only [List.drop_succ_cons, List.drop_zero]
        go_wp2_with (go_at_call 24; refine Calls.mono (HP1.out _ (HT7.out.tab.keep hu) (HRD.out.keep hu)) ?_; rintro e w' ⟨B2, m2, d2, rfl, Q⟩)
        go_meet
        have hTu := HT7.out.keep hu
        have hbound : m2 ≤ n0 + 60 + 20040 + 10020 := by have h1 := Q.rd.len; have h2 := HM2'.out; omega
        obtain ⟨l2, hT2⟩ := hTu.put Q hbound
        exact ⟨l2, hT2, hTu.other Q (heap_keep hu HX7.out) (by decide) (by decide)⟩
    · rw [decide_eq_false hc]
      have he : tG ⟨ki, se, ti, me, ur, hs, bo, st, co, cr, no, nn⟩ = [] := by simp [tG, hc]
      have hus : us8 = ([], us7.2) := by rw [← HUS8.out, he]; rfl
      have hoe : o8 = o7 := by rw [← HE8.out, hus]; simp
      have d1 : (ki == 1) = false := by simpa using hc
      have e1 : decide (ki = 1) = false := by simpa using hc
      have HUE := Lib.hid hus
      have HOE := Lib.hid hoe
      clear he hus hoe
      go_wp2_with fail
      go_meet
      rw [HUE.out, HOE.out]
      obtain ⟨h1, h2, ⟨B, m, d, a1, a2, a3, a4, a5, a6, a7⟩, h5⟩ := HT7.out
      exact ⟨l7, ⟨h1, h2, ⟨B, m, d, a1, a2, a3, a4, a5, a6, by omega⟩, h5⟩, HX7.out⟩
  case rest =>
  obtain ⟨l8, hT8, hx8⟩ := hcut
  obtain ⟨w8, rfl⟩ : ∃ w2, w2 = wc := ⟨_, rfl⟩
  have HT8 := Lib.hid hT8
  have HX8 := Lib.hid hx8
  clear hT8 hx8 c0 HT7 HX7
  -- the body and the headers
  have hcells8 := HT8.out.chg.by_ HCELLS.out HAP.out.2.1
  obtain ⟨us9, hus9⟩ : ∃ us, putTs us8.2 (tH ⟨ki, se, ti, me, ur, hs, bo, st, co, cr, no, nn⟩) = us := ⟨_, rfl⟩
  have hul9 : us9.2.length ≤ 60 * k + 4 := by
    rw [← hus9]
    have := putTs_len (tH ⟨ki, se, ti, me, ur, hs, bo, st, co, cr, no, nn⟩) us8.2 (fun t ht => by unfold tH at ht; split at ht <;> simp at ht; subst ht; omega) (by unfold tH; split <;> simp <;> omega)
    have h2 : (tH ⟨ki, se, ti, me, ur, hs, bo, st, co, cr, no, nn⟩).length ≤ 1 := by unfold tH; split <;> simp
    omega
  obtain ⟨o9, ho9⟩ : ∃ l, o8 ++ us9.1 = l := ⟨_, rfl⟩
  have HUS9 := Lib.hid hus9
  have HE9 := Lib.hid ho9
  have hz6 : ∀ h ∈ hs, h.1.size ≤ 10000 ∧ h.2.size ≤ 10000 := fun h hh => by have := HG.out.hd h hh; omega
  have HZ6 := Lib.hid hz6
  obtain ⟨us10, hus10⟩ : ∃ us, dltB s ⟨ki, se, ti, me, ur, hs, bo, st, co, cr, no, nn⟩ us9.2 = us := ⟨_, rfl⟩
  obtain ⟨o10, ho10⟩ : ∃ l, o9 ++ us10.1 = l := ⟨_, rfl⟩
  have HUS10 := Lib.hid hus10
  have HE10 := Lib.hid ho10
  have c0 : w8.cell? ⟨xb, 0, none⟩ = some (.int .i64 ki) := cell_of_heap HX8.out rfl
  clear hus9 ho9 hz6 hus10 ho10 hcells8
  go_upto_region 21 with fail
  go_cut [146] from 144 to 146 (fun f wx => f = .bool (decide (ki ≤ 3)) ∧ w8 = wx)
  case first =>
    by_cases hc : ki ≤ 3
    
    · go_wp2_with fail
      go_meet
      exact ⟨by rw [decide_eq_true hc], rfl⟩
    · have hd3 : 3 < ki := by omega
      have HC := Lib.hid (decide_eq_false hc)
      clear hc
      go_wp2_with fail
      go_meet
      exact ⟨by rw [HC.out], rfl⟩
  case rest =>
  obtain ⟨rfl, hwc⟩ := hcut
  subst hwc
  go_upto_if 146 with fail
  go_cut [8] from 146 to 169 (fun v wx => ∃ l', RTabO w tp lv o10 us10.2 (n0 + 900000) l' v wx ∧ wx.heap[xb]? = some (.cells #[.int .i64 ki, .int .i64 se, .int .i64 ti, .string me, .string ur, .slice A n c, .string bo, .int .i64 st, .int .i64 co, .bool cr, .string no, .int .u64 nn] 34) ∧ us10.2.length ≤ 60 * k + 54)
  case first =>
    by_cases hc : ki ≤ 3
    · rw [decide_eq_true hc]
      have hkL : isL ki = true := by simp [isL]; omega
      have hus : putTs us8.2 (tH ⟨ki, se, ti, me, ur, hs, bo, st, co, cr, no, nn⟩) = ((putT us8.2 bo).1, (putT us8.2 bo).2) := by simp [tH, hc, putTs]
      have hp1 := putT_len2 us8.2 bo (by omega) (by omega)
      have hE : o8 ++ (putT us8.2 bo).1 = o9 ∧ (putT us8.2 bo).2 = us9.2 := by
        rw [HUS9.out] at hus
        refine ⟨?_, by rw [hus]⟩
        rw [← HE9.out, hus]
      obtain ⟨b3, hb3⟩ : ∃ b3, decide (ki = 3) = b3 := ⟨_, rfl⟩
      have hkb : (ki == 3) = b3 := by rw [← hb3]; rfl
      have hd0 : putD us9.2 (s.L se b3) hs = us10 := by rw [← HUS10.out]; simp [dltB, hkL, hb3]
      have HD0 := Lib.hid hd0
      obtain ⟨B, m, d, hve, hle, hcap, hrd, hfr, hu8, hmN⟩ := HT8.out.out
      subst hve
      have hml := hrd.len
      have hP1 := fun (u : World) (h : RefI u tp l8 us8.2) (h2 : Rd u B m o8) => rput_any tp l8 us8.2 bo B m d o8 u h h2 (by omega) (by omega) (by omega)
      rw [hE.1, hE.2] at hP1
      have hm2' : o9.length ≤ n0 + 60 + 20040 + 10020 + 10020 := by rw [← hE.1, List.length_append, hml]; omega
      have HM2' := Lib.hid hm2'
      have HP1 := Lib.hid hP1
      have HRD := Lib.hid hrd
      have p0 : w8.cell? ⟨p, 0, none⟩ = some (.pointer (some ⟨tp, 0, none⟩)) := cell_of_heap (HT8.out.chg.by_ HCELLS.out HAP.out.2.1) rfl
      have ct : w8.cell? ⟨xb, 6, none⟩ = some (.string bo) := cell_of_heap HX8.out rfl
      have HC3 := Lib.hid hc
      clear hus hp1 hE hle hcap hrd hfr hu8 hmN hml hP1 hm2' hd0 hb3
      go_upto_region 22 with fail
      clear c0
      go_cut [8] from 147 to 154 (fun v wx => ∃ l', RTabO w tp lv o9 us9.2 (n0 + 60 + 20040 + 10020 + 10020) l' v wx ∧ wx.heap[xb]? = some (.cells #[.int .i64 ki, .int .i64 se, .int .i64 ti, .string me, .string ur, .slice A n c, .string bo, .int .i64 st, .int .i64 co, .bool cr, .string no, .int .u64 nn] 34))
      case first =>
        refine region_split 7 [[], [(0, 147)], [(0, 147), (1, 148)], [(0, 147), (1, 148), (2, 149)], [], [], [(5, 152)], [(0, 147), (1, 148), (2, 149), (3, 150), (4, 151), (5, 152), (6, 153)], [(0, 147), (1, 148), (2, 149), (3, 150), (4, 151), (5, 152), (6, 153), (7, 154)]] [(0, 147), (1, 148), (2, 149), (3, 150), (4, 151), (5, 152), (6, 153)] (fun
          | 0 => .eqv (.pointer (some ⟨p, 0, none⟩)) | 1 => .eqv (.pointer (some ⟨p, 0, none⟩)) | 2 => .eqv (.pointer (some ⟨p, 0, none⟩)) | 3 => .eqv (.pointer (some ⟨tp, 0, none⟩)) | 4 => .eqv (.slice B m d) | 5 => .eqv (.pointer (some ⟨xb, 6, none⟩)) | 6 => .eqv (.string bo) | _ => .any) (by kernel_rfl) ?_ ?_
        · refine ⟨fun u hu => ?_, fun u hu => ?_, fun u hu => ?_, fun u hu => ?_, fun u hu => ?_, fun u hu => ?_, fun u hu => ?_, trivial⟩
          · refine StepGoal.nil ?_
            go_wp2
            exact ⟨rfl, rfl, Grew.rf _, rfl⟩
          · rintro _ rfl
            refine StepGoal.nil ?_
            simp only [Act.put, List.setIfInBounds_toArray, List.set_cons_zero, List.set_cons_succ]
            go_wp2
            exact ⟨rfl, rfl, Grew.rf _, rfl⟩
          · rintro _ rfl _ rfl
            refine StepGoal.nil ?_
            simp only [Act.put, List.setIfInBounds_toArray, List.set_cons_zero, List.set_cons_succ]
            go_wp2
            exact ⟨rfl, rfl, Grew.rf _, rfl⟩
          · rintro _ rfl _ rfl _ rfl
            have hce := hu.ce p0
            refine StepGoal.nil ?_
            simp only [Act.put, List.setIfInBounds_toArray, List.set_cons_zero, List.set_cons_succ]
            go_wp2
            exact ⟨rfl, rfl, Grew.rf _, rfl⟩
          · refine StepGoal.nil ?_
            go_wp2
            exact ⟨rfl, rfl, Grew.rf _, rfl⟩
          · refine StepGoal.nil ?_
            go_wp2
            exact ⟨rfl, rfl, Grew.rf _, rfl⟩
          · rintro _ rfl
            have hce := hu.ce ct
            refine StepGoal.nil ?_
            simp only [Act.put, List.setIfInBounds_toArray, List.set_cons_zero, List.set_cons_succ]
            go_wp2
            exact ⟨rfl, rfl, Grew.rf _, rfl⟩
        · intro u hu
          rintro _ rfl _ rfl _ rfl _ rfl _ rfl _ rfl _ rfl
          refine StepGoal.nil ?_
          simp only [Act.put, List.setIfInBounds_toArray, List.set_cons_zero, List.set_cons_succ]; simp only [List.drop_succ_cons, List.drop_zero]
          go_wp2_with (go_at_call 24; refine Calls.mono (HP1.out _ (HT8.out.tab.keep hu) (HRD.out.keep hu)) ?_; rintro e w' ⟨B2, m2, d2, rfl, Q⟩)
          go_meet
          have hTu := HT8.out.keep hu
          have hbound : m2 ≤ n0 + 60 + 20040 + 10020 + 10020 := by have h1 := Q.rd.len; have h2 := HM2'.out; omega
          obtain ⟨l2, hT2⟩ := hTu.put Q hbound
          exact ⟨l2, hT2, hTu.other Q (heap_keep hu HX8.out) (by decide) (by decide)⟩
      case rest =>
      obtain ⟨l9, hT9, hx9⟩ := hcut
      obtain ⟨w9, rfl⟩ : ∃ w2, w2 = wc := ⟨_, rfl⟩
      obtain ⟨B, m, d, hve, hle, hcap, hrd, hfr, hu8, hmN⟩ := hT9.out
      subst hve
      have HT9 := Lib.hid hT9
      have HX9 := Lib.hid hx9
      have hpdl := putD_len us9.2 (s.L se b3) hs (by rw [HL.out]; exact hn25) HZ6.out (by omega)
      have hB9 : RBI w9 p tp l9 LV rows (k + 1) ⟨us9.2, s.ti, s.L⟩ := HB.out.tab2 hT9.chg hT9.tab hT9.ft (by omega) (by omega)
      have hli := fun (u : World) (hu : Grew w9 u) => rlist_any p tp l9 LV rows (k + 1) ⟨us9.2, s.ti, s.L⟩ se b3 u (hB9.keep hu)
      dsimp only at hli
      have hAl : 0 < n → ∀ ad, A = some ad → ¬ ftr tp l9 ad.block := fun h0 ad e hk => by
        have h1 := HAF.out h0 ad e
        obtain ⟨b, o, hAe, hcl⟩ := HR.out.cells (by omega)
        have hlt : ad.block < w.heap.size := by
          rw [hAe] at e; cases e
          have hle : 0 < (hcs hs).length := by rw [hcs_len, HL.out]; omega
          exact lt_of_cell (p := ⟨b, o + 0, none⟩) (hcl 0 _ (List.getElem?_eq_getElem hle))
        rcases hT9.ft _ hk with h2 | h2
        · exact h1 (.inr (.inl h2))
        · omega
      have hr9 : RdH w9 A n hs := HR.out.chg hT9.chg (fun h0 ad e h => HAF.out h0 ad e (.inr (.inl h)))
      have hml := hrd.len
      have hdp := fun (u : World) (hu : Grew w9 u) (Aw : Option Addr) (nw cw : Nat) (hl : RdH u Aw nw (s.L se b3)) (hlw : nw ≤ 25) => rdput_any tp l9 us9.2 B m d o9 Aw nw cw (s.L se b3) A n c hs u (hT9.tab.keep hu) (hrd.keep hu) hl (hr9.keep hu) hAl (by omega) (by omega) (by omega) HZ6.out (by omega)
      rw [HD0.out] at hpdl hdp
      rw [HE10.out] at hdp
      have hm10 : o10.length ≤ n0 + 900000 := by rw [← HE10.out, List.length_append, hml]; omega
      have HM10 := Lib.hid hm10
      have HDP := Lib.hid hdp
      have HLI := Lib.hid hli
      have HPDL := Lib.hid hpdl.2
      have p0' : w9.cell? ⟨p, 0, none⟩ = some (.pointer (some ⟨tp, 0, none⟩)) := cell_of_heap hB9.cells rfl
      have d0 : w9.cell? ⟨xb, 0, none⟩ = some (.int .i64 ki) := cell_of_heap HX9.out rfl
      have d1 : w9.cell? ⟨xb, 1, none⟩ = some (.int .i64 se) := cell_of_heap HX9.out rfl
      have d5 : w9.cell? ⟨xb, 5, none⟩ = some (.slice A n c) := cell_of_heap HX9.out rfl
      clear hT9 hx9 hpdl hB9 hli hAl hr9 hml hdp hm10 hle hcap hrd hfr hu8 hmN p0 ct HP1 HRD HT8 HX8
      go_upto_region 23 with fail
      refine region_split 14 [[], [], [(1, 156)], [(1, 156), (2, 157)], [(1, 156), (2, 157), (3, 158)], [], [], [(6, 161)], [], [(8, 163)], [(8, 163), (9, 164)], [(5, 160), (6, 161), (7, 162), (8, 163), (9, 164), (10, 165)], [], [(12, 167)], [(0, 155), (1, 156), (2, 157), (3, 158), (4, 159), (5, 160), (6, 161), (7, 162), (8, 163), (9, 164), (10, 165), (11, 166), (12, 167), (13, 168)], [(0, 155), (1, 156), (2, 157), (3, 158), (4, 159), (5, 160), (6, 161), (7, 162), (8, 163), (9, 164), (10, 165), (11, 166), (12, 167), (13, 168), (14, 169)]] [(0, 155), (1, 156), (2, 157), (3, 158), (4, 159), (5, 160), (6, 161), (7, 162), (8, 163), (9, 164), (10, 165), (11, 166), (12, 167), (13, 168)] (fun
        | 0 => .eqv (.slice B m d) | 1 => .eqv (.pointer (some ⟨p, 0, none⟩)) | 2 => .eqv (.pointer (some ⟨p, 0, none⟩)) | 3 => .eqv (.pointer (some ⟨p, 0, none⟩)) | 4 => .eqv (.pointer (some ⟨tp, 0, none⟩)) | 5 => .eqv (.pointer (some ⟨p, 0, none⟩)) | 6 => .eqv (.pointer (some ⟨xb, 1, none⟩)) | 7 => .eqv (.int .i64 se) | 8 => .eqv (.pointer (some ⟨xb, 0, none⟩)) | 9 => .eqv (.int .i64 ki) | 10 => .eqv (.bool b3) | 11 => .lstR (s.L se b3) | 12 => .eqv (.pointer (some ⟨xb, 5, none⟩)) | 13 => .eqv (.slice A n c) | _ => .any) (by kernel_rfl) ?_ ?_
      · refine ⟨fun u hu => ?_, fun u hu => ?_, fun u hu => ?_, fun u hu => ?_, fun u hu => ?_, fun u hu => ?_, fun u hu => ?_, fun u hu => ?_, fun u hu => ?_, fun u hu => ?_, fun u hu => ?_, fun u hu => ?_, fun u hu => ?_, fun u hu => ?_, trivial⟩
        · refine StepGoal.nil ?_
          go_wp2
          exact ⟨rfl, rfl, Grew.rf _, rfl⟩
        · refine StepGoal.nil ?_
          go_wp2
          exact ⟨rfl, rfl, Grew.rf _, rfl⟩
        · rintro _ rfl
          refine StepGoal.nil ?_
          simp only [Act.put, List.setIfInBounds_toArray, List.set_cons_zero, List.set_cons_succ]
          go_wp2
          exact ⟨rfl, rfl, Grew.rf _, rfl⟩
        · rintro _ rfl _ rfl
          refine StepGoal.nil ?_
          simp only [Act.put, List.setIfInBounds_toArray, List.set_cons_zero, List.set_cons_succ]
          go_wp2
          exact ⟨rfl, rfl, Grew.rf _, rfl⟩
        · rintro _ rfl _ rfl _ rfl
          have hce := hu.ce p0'
          refine StepGoal.nil ?_
          simp only [Act.put, List.setIfInBounds_toArray, List.set_cons_zero, List.set_cons_succ]
          go_wp2
          exact ⟨rfl, rfl, Grew.rf _, rfl⟩
        · refine StepGoal.nil ?_
          go_wp2
          exact ⟨rfl, rfl, Grew.rf _, rfl⟩
        · refine StepGoal.nil ?_
          go_wp2
          exact ⟨rfl, rfl, Grew.rf _, rfl⟩
        · rintro _ rfl
          have hce := hu.ce d1
          refine StepGoal.nil ?_
          simp only [Act.put, List.setIfInBounds_toArray, List.set_cons_zero, List.set_cons_succ]
          go_wp2
          exact ⟨rfl, rfl, Grew.rf _, rfl⟩
        · refine StepGoal.nil ?_
          go_wp2
          exact ⟨rfl, rfl, Grew.rf _, rfl⟩
        · rintro _ rfl
          have hce := hu.ce d0
          refine StepGoal.nil ?_
          simp only [Act.put, List.setIfInBounds_toArray, List.set_cons_zero, List.set_cons_succ]
          go_wp2
          exact ⟨rfl, rfl, Grew.rf _, rfl⟩
        · rintro _ rfl _ rfl
          refine StepGoal.nil ?_
          simp only [Act.put, List.setIfInBounds_toArray, List.set_cons_zero, List.set_cons_succ]
          go_wp2
          exact ⟨rfl, rfl, Grew.rf _, rfl⟩
        · rintro _ rfl _ rfl _ rfl _ rfl _ rfl _ rfl
          refine StepGoal.nil ?_
          simp only [Act.put, List.setIfInBounds_toArray, List.set_cons_zero, List.set_cons_succ]
          go_wp2_with (go_at_call 49; refine Calls.mono (HLI.out _ hu) ?_; rintro e w3 ⟨Aw, nw, cw, rfl, hrw, hnw, -, rfl⟩)
          exact ⟨rfl, rfl, Grew.rf _, Aw, nw, cw, rfl, hrw, hnw.1⟩
        · refine StepGoal.nil ?_
          go_wp2
          exact ⟨rfl, rfl, Grew.rf _, rfl⟩
        · rintro _ rfl
          have hce := hu.ce d5
          refine StepGoal.nil ?_
          simp only [Act.put, List.setIfInBounds_toArray, List.set_cons_zero, List.set_cons_succ]
          go_wp2
          exact ⟨rfl, rfl, Grew.rf _, rfl⟩
      · intro u hu
        rintro _ rfl _ rfl _ rfl _ rfl _ rfl _ rfl _ rfl _ rfl _ rfl _ rfl _ rfl v166 h166 _ rfl _ rfl
        refine StepGoal.nil ?_
        simp only [Act.put, List.setIfInBounds_toArray, List.set_cons_zero, List.set_cons_succ]; simp only [List.drop_succ_cons, List.drop_zero]
        obtain ⟨Aw, nw, cw, rfl, hli, hnw⟩ : (Pd.lstR (s.L se b3)).p v166 u := h166
        have HLW := Lib.hid hli
        clear hli
        go_wp2_with (go_at_call 32; refine Calls.mono (HDP.out _ hu Aw nw cw HLW.out hnw) ?_; rintro e w7 ⟨B7, m7, d7, rfl, Q⟩)
        go_meet
        have hTu := HT9.out.keep hu
        have hbound : m7 ≤ n0 + 900000 := by have h1 := Q.rd.len; have h2 := HM10.out; omega
        obtain ⟨l2, hT2⟩ := hTu.put Q hbound
        exact ⟨l2, hT2, hTu.other Q (heap_keep hu HX9.out) (by decide) (by decide), by have := HPDL.out; omega⟩
    · rw [decide_eq_false hc]
      have hk0 : isL ki = false := by simp [isL]; omega
      have he : tH ⟨ki, se, ti, me, ur, hs, bo, st, co, cr, no, nn⟩ = [] := by simp [tH, hc]
      have hus : us9 = ([], us8.2) := by rw [← HUS9.out, he]; rfl
      have hoe : o9 = o8 := by rw [← HE9.out, hus]; simp
      have hus2 : us10 = ([], us8.2) := by rw [← HUS10.out]; simp [dltB, hk0, hus]
      have hoe2 : o10 = o8 := by rw [← HE10.out, hus2, hoe]; simp
      have hd3 : 3 < ki := by omega
      have HUE := Lib.hid hus2
      have HOE := Lib.hid hoe2
      clear he hus hoe hus2 hoe2
      go_wp2_with fail
      go_meet
      rw [HUE.out, HOE.out]
      obtain ⟨h1, h2, ⟨B, m, d, a1, a2, a3, a4, a5, a6, a7⟩, h5⟩ := HT8.out
      exact ⟨l8, ⟨h1, h2, ⟨B, m, d, a1, a2, a3, a4, a5, a6, by omega⟩, h5⟩, HX8.out, by dsimp only; omega⟩
  case rest =>
  obtain ⟨l10, hT10, hx10, hul10⟩ := hcut
  obtain ⟨w10, hw10⟩ : ∃ w2, w2 = wc := ⟨_, rfl⟩
  subst hw10
  have hB10 : RBI w10 p tp l10 LV rows (k + 1) ⟨us10.2, s.ti, s.L⟩ := HB.out.tab2 hT10.chg hT10.tab hT10.ft (by omega) (by omega)
  have hr10 : RdH w10 A n hs := HR.out.chg hT10.chg (fun h0 ad e h => HAF.out h0 ad e (.inr (.inl h)))
  have hA10 : 0 < n → ∀ ad, A = some ad → ¬ ftR p tp l10 LV ad.block := fun h0 ad e hk => by
    have h1 := HAF.out h0 ad e
    obtain ⟨b, o, hAe, hcl⟩ := HR.out.cells (by omega)
    have hlt : ad.block < w.heap.size := by
      rw [hAe] at e; cases e
      have hle : 0 < (hcs hs).length := by rw [hcs_len, HL.out]; omega
      exact lt_of_cell (p := ⟨b, o + 0, none⟩) (hcl 0 _ (List.getElem?_eq_getElem hle))
    rcases hk with hk | hk | hk
    · exact h1 (.inl hk)
    · rcases hT10.ft _ hk with h2 | h2
      · exact h1 (.inr (.inl h2))
      · omega
    · exact h1 (.inr (.inr hk))
  have htd := rtold_any p tp l10 LV rows (k + 1) ⟨us10.2, s.ti, s.L⟩ ⟨ki, se, ti, me, ur, hs, bo, st, co, cr, no, nn⟩ A n c w10 hB10 hr10 ⟨hn25, hnc, hc⟩ hg1.1 hg3.1 hg3.2 hA10 (by omega)
  obtain ⟨B, m, d, hve, hle, hcap, hrd, hfr, hu8, hmN⟩ := hT10.out
  subst hve
  have HTD := Lib.hid htd
  have HT10 := Lib.hid hT10
  have HRD := Lib.hid hrd
  have HFR := Lib.hid hfr
  have HU8 := Lib.hid hu8
  have HB10 := Lib.hid hB10
  have hx0 := hx10
  clear htd hT10 hx10 hr10 hB10 hA10 hrd hfr hu8 c0
  go_wp2_with (first | ((with_reducible refine gate_ld' 34 (.tmp 5) rfl ?_); refine ld_row (.inl rfl) rfl rfl hx0 rfl Try.underlying34 (by kernel_rfl) ?_) | (go_at_call 50; refine Calls.mono HTD.out ?_; rintro e w8 ⟨rfl, hQ8⟩))
  refine bodyPost_ret (v := .tuple #[.slice B m d, .int .i64 0]) (by simp [results, Try.results16, go_sem]) rfl ⟨.slice B m d, rfl, ?_⟩
  have hbk : ∀ ad, B = some ad → ¬ (ad.block = p ∨ LV.ownBlock = some ad.block) := fun ad e hk => by
    have h1 := HFR.out ad e
    rcases hk with hk | hk
    · have := HB.out.lt (.inl rfl); omega
    · have := HB.out.lt (.inr (.inr hk)); omega
  have hout : bs ++ (putB s ⟨ki, se, ti, me, ur, hs, bo, st, co, cr, no, nn⟩).1 = o10 := by
    rw [← HE10.out, ← HE9.out, ← HE8.out, ← HE7.out, ← HE6.out, ← HE5.out, ← HE4.out, ← HE3.out, ← HE2.out, ← HE1.out]
    have hw := HWO.out
    simp only [putB, headB, HNE.out, HMI.out, hw, putTs_app, HUS7.out, HUS8.out, HUS9.out, HUS10.out, HT0.out, HLS.out, HLT.out, leb_ki hg1, List.append_assoc]
  have hst : (putB s ⟨ki, se, ti, me, ur, hs, bo, st, co, cr, no, nn⟩).2 = toldB ⟨us10.2, s.ti, s.L⟩ us10.2 ⟨ki, se, ti, me, ur, hs, bo, st, co, cr, no, nn⟩ := by
    have hw := HWO.out
    simp only [putB, hw, putTs_app, HUS7.out, HUS8.out, HUS9.out, HUS10.out, toldB]
  rw [hout, hst]
  obtain ⟨LV', rows', hb8, hf8, hM8⟩ := hQ8.book
  refine ⟨⟨B, m, d, rfl, hle, hcap, HRD.out.chg hQ8.chg (fun _ => hbk), HFR.out, fun ad e => ?_, by omega⟩, ⟨l10, LV', rows', hb8, fun b hb => ?_, hM8⟩, ?_⟩
  · obtain ⟨cs, fr, hc8⟩ := HU8.out ad e
    exact ⟨cs, fr, hQ8.chg.by_ hc8 (hbk ad e)⟩
  · have hsz := HT10.out.chg.size
    rcases hb with hb | hb | hb
    · exact .inl (.inl hb)
    · exact (HT10.out.ft b hb).imp (fun h => .inr (.inl h)) (fun h => h)
    · exact (hf8 b hb).imp (fun h => .inr (.inr h)) (fun h => by omega)
  · exact (HT10.out.chg.mono (fun b h => .inr (.inl h))).tr (hQ8.chg.mono (fun b h => .inl (h.elim .inl (fun h => .inr (.inr h)))))
end Go.Proofs.Ytbkcpgaicoagfaa
