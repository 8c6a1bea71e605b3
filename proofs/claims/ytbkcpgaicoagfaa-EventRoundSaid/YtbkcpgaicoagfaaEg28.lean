/- Book.Put. Printed by wip/mkBk4.py. -/
import Derived.Test.YtbkcpgaicoagfaaEg27
import Derived.Test.YtbkcpgaicoagfaaEg25
import Derived.Test.YtbkcpgaicoagfaaEg26
set_option linter.unusedVariables false
set_option linter.unusedSimpArgs false
namespace Go.Proofs.Ytbkcpgaicoagfaa
open Go.RowKit

section
variable {ops : Array Oper} {rest : List Oper} {o : Oper} {a : Act} {Q : Exit → Act → World → Prop} {W : World}
theorem gate_ld' (ty : TypeId) (x : Operand) (ho : o.op = .load ty x) (k : wpList Try.prog ops Q (o :: rest) a W) : wpList Try.prog ops Q (o :: rest) a W := k
end
/-- Bytes that the call has made. -/
def OutP (base : Nat) (out : List Int) (N : Nat) (v : Value) (u : World) : Prop := ∃ B m d, v = .slice B m d ∧ m ≤ d ∧ d ≤ 9223372036854775807 ∧ Rd u B m out ∧ FreshA base B ∧ U8 u B ∧ m ≤ N
theorem OutP.keep {base : Nat} {out : List Int} {N : Nat} {v : Value} {u u' : World} (h : OutP base out N v u) (hg : Grew u u') : OutP base out N v u' := by
  obtain ⟨B, m, d, h1, h2, h3, h4, h5, h6, h7⟩ := h
  exact ⟨B, m, d, h1, h2, h3, h4.keep hg, h5, h6.keep hg, h7⟩
def Pd.out (base : Nat) (out : List Int) (N : Nat) : Pd := ⟨OutP base out N, fun _ _ _ h hg => h.keep hg⟩
theorem OutP.own {base b : Nat} {out : List Int} {N : Nat} {v : Value} {u : World} (h : Own u b v out) (hb : base ≤ b) (hN : out.length ≤ N) : OutP base out N v u := by
  obtain ⟨B, d, rfl, h1, h2, h3⟩ := h.rd
  exact ⟨B, _, d, rfl, h1, h2, h3, h.fresh.mono hb, h.u8, hN⟩
/-- leb.Put behind such bytes. -/
theorem lebPut_out {base : Nat} {out : List Int} {N : Nat} {v : Value} {u : World} (h : OutP base out N v u) (hN : N ≤ 100000000) (hb : base ≤ u.heap.size) {z : Int} (h0 : 0 ≤ z) (h1 : z < 18446744073709551616) :
    ∃ B m d, v = .slice B m d ∧ Calls Try.prog 41 #[.slice B m d, .int .u64 z] u fun e w' => ∃ v', e = .returned v' ∧ OutP base (out ++ leb z) (N + 10) v' w' ∧ Grew u w' := by
  obtain ⟨B, m, d, rfl, h2, h3, h4, h5, h6, h7⟩ := h
  refine ⟨B, m, d, rfl, Calls.mono (put_any B m d out z u h4 (by omega) h0 h1) ?_⟩
  rintro e w' ⟨v', rfl, ho, hg⟩
  have hl := h4.len
  have := leb_len h0
  exact ⟨v', rfl, OutP.own ho hb (by rw [List.length_append, hl]; omega), hg⟩

/-- Behind a Put that was let. -/
structure BPutQ (w : World) (p tp : Nat) (lv : Value) (mb lb k : Nat) (s : PB) (out : List Int) (N : Nat) (v : Value) (w' : World) : Prop where
  out : OutP w.heap.size out N v w'
  book : ∃ lv', BookI w' p tp lv' mb lb (k + 2) s ∧ (∀ b, ftb p tp lv' mb lb b → ftb p tp lv mb lb b ∨ w.heap.size ≤ b) ∧ ∀ b, v.ownBlock = some b → ¬ ftb p tp lv' mb lb b
  chg : Chg (ftb p tp lv mb lb) w w'

theorem putD_len (ts : List ByteArray) (was list : List Hdr) (hl : list.length ≤ 25) (hz : ∀ h ∈ list, h.1.size ≤ 10000 ∧ h.2.size ≤ 10000) (ht : ts.length ≤ 900000) : (putD ts was list).1.length ≤ 600000 ∧ ts.length ≤ (putD ts was list).2.length ∧ (putD ts was list).2.length ≤ ts.length + 50 := by
  have hf := freshD_len was list
  have hle := endsB_le was list
  have h1 := leb_len (v := (endsA was list : Int)) (by omega)
  have h2 := leb_len (v := (endsB was list : Int)) (by omega)
  have h3 := leb_len (v := ((freshD was list).length : Int)) (by omega)
  have hm : ∀ h ∈ freshD was list, h.1.size ≤ 10000 ∧ h.2.size ≤ 10000 := fun h hh => hz h (by
    unfold freshD at hh
    exact List.mem_of_mem_take (List.mem_of_mem_drop hh))
  have hp := putFs_len (freshD was list) ts hm (by omega)
  simp only [putD, List.length_append]
  omega
def Pd.lst (l : List Hdr) : Pd := ⟨fun v u => ∃ A n c, v = .slice A n c ∧ LstI u A n c l, fun v u u' ⟨A, n, c, h1, h2⟩ hg => ⟨A, n, c, h1, h2.chg (F := fun _ => False) (Chg.of hg) (fun _ _ _ _ h => h)⟩⟩
/-- Bytes and a table, on their way. -/
structure TabO (w0 : World) (tp : Nat) (lv : Value) (mb : Nat) (out : List Int) (ts : List ByteArray) (N : Nat) (lv' v : Value) (u : World) : Prop where
  tab : TabI u tp lv' mb ts
  ft : ∀ k, ftp tp lv' mb k → ftp tp lv mb k ∨ w0.heap.size ≤ k
  out : OutP w0.heap.size out N v u
  ap : ∀ b, v.ownBlock = some b → ¬ ftp tp lv' mb b
  chg : Chg (ftp tp lv mb) w0 u
theorem TabO.keep {w0 u u' : World} {tp : Nat} {lv : Value} {mb : Nat} {out : List Int} {ts : List ByteArray} {N : Nat} {lv' v : Value} (h : TabO w0 tp lv mb out ts N lv' v u) (hg : Grew u u') : TabO w0 tp lv mb out ts N lv' v u' :=
  ⟨h.tab.keep hg, h.ft, h.out.keep hg, h.ap, h.chg.tr (Chg.of hg)⟩
theorem TabO.start {w0 u : World} {tp : Nat} {lv : Value} {mb : Nat} {out : List Int} {ts : List ByteArray} {N : Nat} {v : Value} (hT : TabI w0 tp lv mb ts) (hg : Grew w0 u) (ho : OutP w0.heap.size out N v u) : TabO w0 tp lv mb out ts N lv v u :=
  ⟨hT.keep hg, fun k hk => .inl hk, ho, fun b hb hk => by
    obtain ⟨B, m, d, rfl, _, _, _, hf, _⟩ := ho
    have := hT.lt hk
    cases B with
    | none => cases hb
    | some ad =>
      have h1 := hf ad rfl
      have : ad.block = b := by simpa [Value.ownBlock] using hb
      omega, Chg.of hg⟩
/-- What PutQ makes of it. -/
theorem TabO.put {w0 u u' : World} {tp : Nat} {lv : Value} {mb : Nat} {out : List Int} {ts : List ByteArray} {N : Nat} {lv' v : Value} (h : TabO w0 tp lv mb out ts N lv' v u) {out2 : List Int} {ts2 : List ByteArray} {B : Option Addr} {m d N2 : Nat} (Q : PutQ u u' tp lv' mb out2 ts2 B m d) (hN : m ≤ N2) : ∃ l2, TabO w0 tp lv mb out2 ts2 N2 l2 (.slice B m d) u' := by
  obtain ⟨l2, hT, hf, hap⟩ := Q.tab
  have hsz := h.chg.size
  refine ⟨l2, hT, fun k hk => ?_, ⟨B, m, d, rfl, Q.le, Q.cap, Q.rd, Q.fresh.mono hsz, Q.u8, hN⟩, fun b hb => ?_, h.chg.tr (Q.chg.mono h.ft)⟩
  · rcases hf k hk with h1 | h1
    · exact h.ft k h1
    · exact .inr (by omega)
  · cases B with
    | none => cases hb
    | some ad =>
      have : ad.block = b := by simpa [Value.ownBlock] using hb
      rw [← this]
      exact hap ad rfl
/-- A block of other cells stands while the table's Put runs. -/
theorem TabO.other {w0 u u' : World} {tp : Nat} {lv : Value} {mb : Nat} {out : List Int} {ts : List ByteArray} {N : Nat} {lv' v : Value} (h : TabO w0 tp lv mb out ts N lv' v u) {out2 : List Int} {ts2 : List ByteArray} {B : Option Addr} {m d : Nat} (Q : PutQ u u' tp lv' mb out2 ts2 B m d) {b : Nat} {cs : Array Value} {T : TypeId} {fr : Nat × Nat} (hb : u.heap[b]? = some (.cells cs T fr)) (h1 : T ≠ 117) (h2 : T ≠ 9) : u'.heap[b]? = some (.cells cs T fr) :=
  Q.chg.by_ hb (ftp_nobook h.tab hb h1 h2)

set_option maxRecDepth 100000 in
set_option maxHeartbeats 6400000 in
theorem bput_bad (p tp : Nat) (lv : Value) (mb lb k : Nat) (s : PB) (x : Ev) (A : Option Addr) (n c : Nat) (A0 : Option Addr) (n0 d0 : Nat) (w : World) (hB : BookI w p tp lv mb lb k s) (hr : RdH w A n x.hs) (hA : A = none → n = 0 ∧ c = 0) (hn : n ≤ 1000) (hg : goodE x = false) :
    Calls Try.prog 14 #[.pointer (some ⟨p, 0, none⟩), .slice A0 n0 d0, evV x A n c] w fun e w' => e = .returned (.tuple #[.slice none 0 0, .int .i64 4]) ∧ Grew w w' := by
  have hgd := fun (u : World) (hu : Grew w u) => egood_any x A n c u (hr.keep hu) hA hn
  unfold GoodC at hgd
  rw [hg] at hgd
  have HGD := Lib.hid hgd
  clear hgd hr hA hg
  obtain ⟨ki, se, ti, me, ur, hs, bo, st, co, cr, no, nn⟩ := x
  go_enter Try.func14, Try.ntmps14
  go_wp2_with (go_at_call 38; refine Calls.mono (HGD.out _ ((Grew.rf w).al _)) ?_; rintro e w2 ⟨rfl, hg2⟩)
  exact bodyPost_ret (v := .tuple #[.slice none 0 0, .int .i64 4]) (by simp [results, Try.results14, go_sem]) rfl ⟨rfl, ((Grew.rf w).al _).tr hg2⟩
set_option maxRecDepth 100000 in
set_option maxHeartbeats 6400000 in
theorem bput_late (p tp : Nat) (lv : Value) (mb lb k : Nat) (s : PB) (x : Ev) (A : Option Addr) (n c : Nat) (A0 : Option Addr) (n0 d0 : Nat) (w : World) (hB : BookI w p tp lv mb lb k s) (hr : RdH w A n x.hs) (hA : A = none → n = 0 ∧ c = 0) (hn : n ≤ 1000) (hg : goodE x = true) (hlate : x.ti < s.ti) :
    Calls Try.prog 14 #[.pointer (some ⟨p, 0, none⟩), .slice A0 n0 d0, evV x A n c] w fun e w' => e = .returned (.tuple #[.slice none 0 0, .int .i64 9]) ∧ Grew w w' := by
  have hgd := fun (u : World) (hu : Grew w u) => egood_any x A n c u (hr.keep hu) hA hn
  unfold GoodC at hgd
  rw [hg] at hgd
  have HGD := Lib.hid hgd
  have HB := Lib.hid hB
  clear hgd hr hA hg hB
  obtain ⟨ki, se, ti, me, ur, hs, bo, st, co, cr, no, nn⟩ := x
  dsimp only at hlate
  obtain ⟨t0, ht0⟩ : ∃ t0, s.ti = t0 := ⟨_, rfl⟩
  rw [ht0] at hlate
  have hd : decide (ti < t0) = true := decide_eq_true hlate
  go_enter Try.func14, Try.ntmps14
  go_upto_region 5 with (go_at_call 38; refine Calls.mono (HGD.out _ ((Grew.rf w).al _)) ?_; rintro e w2 ⟨rfl, hg2⟩)
  have hx2 := heap_keep hg2 (heap_alloc_new w (evO ⟨ki, se, ti, me, ur, hs, bo, st, co, cr, no, nn⟩ A n c))
  have c2 : w2.cell? ⟨w.heap.size, 2, none⟩ = some (.int .i64 ti) := cell_of_heap hx2 rfl
  have hB2 := HB.out.keep (((Grew.rf w).al (evO ⟨ki, se, ti, me, ur, hs, bo, st, co, cr, no, nn⟩ A n c)).tr hg2)
  have c1 : w2.cell? ⟨p, 1, none⟩ = some (.int .i64 t0) := by rw [← ht0]; exact cell_of_heap hB2.cells rfl
  have HG2 := Lib.hid hg2
  clear hx2 hB2 hg2 ht0 hlate
  go_quiet (fail)
  go_wp2_with fail
  exact bodyPost_ret (v := .tuple #[.slice none 0 0, .int .i64 9]) (by simp [results, Try.results14, go_sem]) rfl ⟨rfl, (((Grew.rf w).al _).tr HG2.out).drN _⟩

set_option maxRecDepth 100000 in
set_option maxHeartbeats 6400000 in
theorem bput_any (p tp : Nat) (lv : Value) (mb lb k : Nat) (s : PB) (x : Ev) (A : Option Addr) (n c : Nat) (A0 : Option Addr) (n0 d0 : Nat) (bs : List Int) (w : World) (hB : BookI w p tp lv mb lb k s) (hr : RdH w A n x.hs) (hA : A = none → n = 0 ∧ c = 0) (hnc : n ≤ c) (hc : c ≤ 9223372036854775807) (hrb : Rd w A0 n0 bs) (hn0 : n0 ≤ 5000000) (hAf : 0 < n → ∀ ad, A = some ad → ¬ ftb p tp lv mb lb ad.block) (hk : k < 990) (hW : EvW x) (hg : goodE x = true) (hlate : s.ti ≤ x.ti) :
    Calls Try.prog 14 #[.pointer (some ⟨p, 0, none⟩), .slice A0 n0 d0, evV x A n c] w fun e w' => ∃ v, e = .returned (.tuple #[v, .int .i64 0]) ∧ BPutQ w p tp lv mb lb k (putB s x).2 (bs ++ (putB s x).1) (n0 + 1000000) v w' := by
  have hG := goodP_of hg
  have hl := hr.lenH
  have hn25 : n ≤ 25 := by rw [← hl]; exact hG.hs
  have hgd := fun (u : World) (hu : Grew w u) => egood_any x A n c u (hr.keep hu) hA (by omega)
  unfold GoodC at hgd
  rw [hg] at hgd
  have HGD := Lib.hid hgd
  have HB := Lib.hid hB
  have HR := Lib.hid hr
  have HRB := Lib.hid hrb
  have HAN := Lib.hid hA
  have HAF := Lib.hid hAf
  have HG := Lib.hid hG
  have HW := Lib.hid hW
  have HL := Lib.hid hl
  clear hgd hr hA hg hB hrb hAf hG hW hl
  obtain ⟨ki, se, ti, me, ur, hs, bo, st, co, cr, no, nn⟩ := x
  dsimp only at hlate HL HR
  obtain ⟨t0, ht0⟩ : ∃ t0, s.ti = t0 := ⟨_, rfl⟩
  have hb0 := HB.out.t0
  have hb1 := HB.out.t1
  rw [ht0] at hlate hb0 hb1
  have hg1 := HG.out.ki
  have hg2 := HG.out.se
  have hg3 := HG.out.ti
  dsimp only at hg1 hg2 hg3
  have hd : decide (ti < t0) = false := decide_eq_false (by omega)
  have HT0 := Lib.hid ht0
  go_enter Try.func14, Try.ntmps14
  go_upto_region 5 with (go_at_call 38; refine Calls.mono (HGD.out _ ((Grew.rf w).al _)) ?_; rintro e w2 ⟨rfl, hg2⟩)
  have hx2 := heap_keep hg2 (heap_alloc_new w (evO ⟨ki, se, ti, me, ur, hs, bo, st, co, cr, no, nn⟩ A n c))
  have hgW : Grew w w2 := ((Grew.rf w).al (evO ⟨ki, se, ti, me, ur, hs, bo, st, co, cr, no, nn⟩ A n c)).tr hg2
  have hB2 := HB.out.keep hgW
  obtain ⟨xb, hxb⟩ : ∃ xb, w.heap.size = xb := ⟨_, rfl⟩
  rw [hxb] at hx2 ⊢
  have hxlt : xb < w2.heap.size := (Array.getElem?_eq_some_iff.1 hx2).1
  have c2 : w2.cell? ⟨xb, 2, none⟩ = some (.int .i64 ti) := cell_of_heap hx2 rfl
  have c1 : w2.cell? ⟨p, 1, none⟩ = some (.int .i64 t0) := by rw [← HT0.out]; exact cell_of_heap hB2.cells rfl
  have HX2 : RowKit.Hid (w2.heap[xb]? = some (.cells #[.int .i64 ki, .int .i64 se, .int .i64 ti, .string me, .string ur, .slice A n c, .string bo, .int .i64 st, .int .i64 co, .bool cr, .string no, .int .u64 nn] 34)) := hx2
  have HGW := Lib.hid hgW
  have HXB := Lib.hid hxb
  clear hx2 hB2 hg2 hgW hxb ht0 HGD
  go_quiet (fail)
  go_upto_region 7 with fail
  have HX3 : RowKit.Hid ((w2.drewN nq).heap[xb]? = some (.cells #[.int .i64 ki, .int .i64 se, .int .i64 ti, .string me, .string ur, .slice A n c, .string bo, .int .i64 st, .int .i64 co, .bool cr, .string no, .int .u64 nn] 34)) := HX2.out
  have HGW3 := Lib.hid (HGW.out.drN nq)
  generalize w2.drewN nq = W at *
  clear HX2 HGW c1 c2 hd
  have hB3 := HB.out.keep HGW3.out
  have c0 : W.cell? ⟨xb, 0, none⟩ = some (.int .i64 ki) := cell_of_heap HX3.out rfl
  have c1 : W.cell? ⟨xb, 1, none⟩ = some (.int .i64 se) := cell_of_heap HX3.out rfl
  have c2 : W.cell? ⟨xb, 2, none⟩ = some (.int .i64 ti) := cell_of_heap HX3.out rfl
  have k1 : W.cell? ⟨p, 1, none⟩ = some (.int .i64 t0) := by rw [← HT0.out]; exact cell_of_heap hB3.cells rfl
  have hbz : ∀ u, Grew W u → w.heap.size ≤ u.heap.size := fun u hu => Nat.le_trans HGW3.out.size hu.size
  have HBZ := Lib.hid hbz
  have HB3 := Lib.hid hB3
  clear hB3 hbz
  obtain ⟨bz, hbz0⟩ : ∃ bz, w.heap.size = bz := ⟨_, rfl⟩
  rw [hbz0] at HBZ
  have HBZ0 := Lib.hid hbz0
  clear hbz0
  have hpa := fun (u : World) (hu : Grew W u) => put_any A0 n0 d0 bs ki u ((HRB.out.keep HGW3.out).keep hu) (by omega) (by omega) (by omega)
  have HPA := Lib.hid hpa
  have hl0 := leb_len (v := ki) (by omega)
  have hn0l := HRB.out.len
  clear hpa
  obtain ⟨o1, ho1⟩ : ∃ o1, bs ++ leb ki = o1 := ⟨_, rfl⟩
  obtain ⟨o2, ho2⟩ : ∃ o2, o1 ++ leb se = o2 := ⟨_, rfl⟩
  obtain ⟨o3, ho3⟩ : ∃ o3, o2 ++ leb (ti - t0) = o3 := ⟨_, rfl⟩
  have HE1 := Lib.hid ho1
  have HE2 := Lib.hid ho2
  have HE3 := Lib.hid ho3
  clear ho1 ho2 ho3
  go_cut [8] from 28 to 45 (fun v wx => OutP bz o3 (n0 + 10 + 10 + 10) v wx ∧ Grew W wx)
  case first =>
    refine region_grew [[], [], [(1, 29)], [(2, 30)], [(0, 28), (3, 31)], [], [(5, 33)], [(6, 34)], [(4, 32), (7, 35)], [], [(9, 37)], [], [(11, 39)], [(12, 40)], [(13, 41)], [(10, 38), (14, 42)], [(15, 43)], [(8, 36), (16, 44)], [(17, 45)]] [(0, 28), (1, 29), (2, 30), (3, 31), (4, 32), (5, 33), (6, 34), (7, 35), (8, 36), (9, 37), (10, 38), (11, 39), (12, 40), (13, 41), (14, 42), (15, 43), (16, 44), (17, 45), (18, 8)] (fun
      | 0 => .eqv (.slice A0 n0 d0) | 1 => .eqv (.pointer (some ⟨xb, 0, none⟩)) | 2 => .eqv (.int .i64 ki) | 3 => .eqv (.int .u64 ki) | 4 => .out bz o1 (n0 + 10) | 5 => .eqv (.pointer (some ⟨xb, 1, none⟩)) | 6 => .eqv (.int .i64 se) | 7 => .eqv (.int .u64 se) | 8 => .out bz o2 (n0 + 10 + 10) | 9 => .eqv (.pointer (some ⟨xb, 2, none⟩)) | 10 => .eqv (.int .i64 ti) | 11 => .eqv (.pointer (some ⟨p, 0, none⟩)) | 12 => .eqv (.pointer (some ⟨p, 0, none⟩)) | 13 => .eqv (.pointer (some ⟨p, 1, none⟩)) | 14 => .eqv (.int .i64 t0) | 15 => .eqv (.int .i64 (ti - t0)) | 16 => .eqv (.int .u64 (ti - t0)) | 17 => .out bz o3 (n0 + 10 + 10 + 10) | 18 => .out bz o3 (n0 + 10 + 10 + 10) | _ => .any) (by kernel_rfl) ?_ ?_
    · refine ⟨fun u hu => ?_, fun u hu => ?_, fun u hu => ?_, fun u hu => ?_, fun u hu => ?_, fun u hu => ?_, fun u hu => ?_, fun u hu => ?_, fun u hu => ?_, fun u hu => ?_, fun u hu => ?_, fun u hu => ?_, fun u hu => ?_, fun u hu => ?_, fun u hu => ?_, fun u hu => ?_, fun u hu => ?_, fun u hu => ?_, fun u hu => ?_, trivial⟩
      · refine StepGoal.nil ?_
        go_wp2
        exact ⟨rfl, rfl, Grew.rf _, rfl⟩
      · refine StepGoal.nil ?_
        go_wp2
        exact ⟨rfl, rfl, Grew.rf _, rfl⟩
      · rintro _ rfl
        have hce := hu.ce c0
        refine StepGoal.nil ?_
        simp only [Act.put, List.setIfInBounds_toArray, List.set_cons_zero, List.set_cons_succ]
        go_wp2
        exact ⟨rfl, rfl, Grew.rf _, rfl⟩
      · rintro _ rfl
        refine StepGoal.nil ?_
        simp only [Act.put, List.setIfInBounds_toArray, List.set_cons_zero, List.set_cons_succ]
        go_wp2
        exact ⟨rfl, rfl, Grew.rf _, rfl⟩
      · rintro _ rfl _ rfl
        refine StepGoal.nil ?_
        simp only [Act.put, List.setIfInBounds_toArray, List.set_cons_zero, List.set_cons_succ]
        go_wp2_with (go_at_call 41; refine Calls.mono (HPA.out _ hu) ?_; rintro e w3 ⟨v3, rfl, ho3, hg3⟩)
        have ho4 := OutP.own (N := n0 + 10) ho3 (HBZ.out _ hu) (by rw [List.length_append, hn0l]; omega); rw [HE1.out] at ho4; exact ⟨rfl, rfl, hg3, ho4⟩
      · refine StepGoal.nil ?_
        go_wp2
        exact ⟨rfl, rfl, Grew.rf _, rfl⟩
      · rintro _ rfl
        have hce := hu.ce c1
        refine StepGoal.nil ?_
        simp only [Act.put, List.setIfInBounds_toArray, List.set_cons_zero, List.set_cons_succ]
        go_wp2
        exact ⟨rfl, rfl, Grew.rf _, rfl⟩
      · rintro _ rfl
        refine StepGoal.nil ?_
        simp only [Act.put, List.setIfInBounds_toArray, List.set_cons_zero, List.set_cons_succ]
        go_wp2
        exact ⟨rfl, rfl, Grew.rf _, rfl⟩
      · rintro v32 h32 _ rfl
        obtain ⟨B, m, d, rfl, hcl⟩ := lebPut_out (z := se) (h32 : OutP bz o1 (n0 + 10) v32 u) (by omega) (HBZ.out _ hu) (by omega) (by omega)
        refine StepGoal.nil ?_
        simp only [Act.put, List.setIfInBounds_toArray, List.set_cons_zero, List.set_cons_succ]
        go_wp2_with (go_at_call 41; refine Calls.mono hcl ?_; rintro e w3 ⟨v3, rfl, ho3, hg3⟩; rw [HE2.out] at ho3)
        exact ⟨rfl, rfl, hg3, ho3⟩
      · refine StepGoal.nil ?_
        go_wp2
        exact ⟨rfl, rfl, Grew.rf _, rfl⟩
      · rintro _ rfl
        have hce := hu.ce c2
        refine StepGoal.nil ?_
        simp only [Act.put, List.setIfInBounds_toArray, List.set_cons_zero, List.set_cons_succ]
        go_wp2
        exact ⟨rfl, rfl, Grew.rf _, rfl⟩
      · refine StepGoal.nil ?_
        go_wp2
        exact ⟨rfl, rfl, Grew.rf _, rfl⟩
      · rintro _ rfl
        refine StepGoal.nil ?_
        simp only [Act.put, List.setIfInBounds_toArray, List.set_cons_zero, List.set_cons_succ]
        go_wp2
        exact ⟨rfl, rfl, Grew.rf _, rfl⟩
      · rintro _ rfl
        refine StepGoal.nil ?_
        simp only [Act.put, List.setIfInBounds_toArray, List.set_cons_zero, List.set_cons_succ]
        go_wp2
        exact ⟨rfl, rfl, Grew.rf _, rfl⟩
      · rintro _ rfl
        have hce := hu.ce k1
        refine StepGoal.nil ?_
        simp only [Act.put, List.setIfInBounds_toArray, List.set_cons_zero, List.set_cons_succ]
        go_wp2
        exact ⟨rfl, rfl, Grew.rf _, rfl⟩
      · rintro _ rfl _ rfl
        refine StepGoal.nil ?_
        simp only [Act.put, List.setIfInBounds_toArray, List.set_cons_zero, List.set_cons_succ]
        go_wp2
        exact ⟨rfl, rfl, Grew.rf _, rfl⟩
      · rintro _ rfl
        refine StepGoal.nil ?_
        simp only [Act.put, List.setIfInBounds_toArray, List.set_cons_zero, List.set_cons_succ]
        go_wp2
        exact ⟨rfl, rfl, Grew.rf _, rfl⟩
      · rintro v36 h36 _ rfl
        obtain ⟨B, m, d, rfl, hcl⟩ := lebPut_out (z := ti - t0) (h36 : OutP bz o2 (n0 + 10 + 10) v36 u) (by omega) (HBZ.out _ hu) (by omega) (by omega)
        refine StepGoal.nil ?_
        simp only [Act.put, List.setIfInBounds_toArray, List.set_cons_zero, List.set_cons_succ]
        go_wp2_with (go_at_call 41; refine Calls.mono hcl ?_; rintro e w3 ⟨v3, rfl, ho3, hg3⟩; rw [HE3.out] at ho3)
        exact ⟨rfl, rfl, hg3, ho3⟩
      · rintro v45 h45
        refine StepGoal.nil ?_
        simp only [Act.put, List.setIfInBounds_toArray, List.set_cons_zero, List.set_cons_succ]
        go_wp2
        exact ⟨rfl, rfl, Grew.rf _, h45⟩
    · intro u hu
      rintro _ rfl _ rfl _ rfl _ rfl v32 h32 _ rfl _ rfl _ rfl v36 h36 _ rfl _ rfl _ rfl _ rfl _ rfl _ rfl _ rfl _ rfl v45 h45 v8 h8
      refine StepGoal.nil ?_
      simp only [Act.put, List.setIfInBounds_toArray, List.set_cons_zero, List.set_cons_succ]
      go_wp2_with fail
      go_meet
      exact ⟨h8, hu⟩
  case rest =>
  obtain ⟨ho1, hg1w⟩ := hcut
  obtain ⟨w1, rfl⟩ : ∃ w1, w1 = wc := ⟨_, rfl⟩
  have HG1 := Lib.hid hg1w
  have HO1 := Lib.hid ho1
  clear hg1w ho1 hl0 hn0l HPA k1
  -- the numbers
  have hfc : ∀ f ∈ numF ki, W.cell? ⟨xb, f, none⟩ = some (.int .i64 (fldI ⟨ki, se, ti, me, ur, hs, bo, st, co, cr, no, nn⟩ f)) := by
    intro f hf
    have h78 : f = 8 ∨ f = 7 := by
      unfold numF at hf
      repeat' split at hf
      all_goals simp at hf
      all_goals omega
    rcases h78 with rfl | rfl
    · exact cell_of_heap HX3.out rfl
    · exact cell_of_heap HX3.out rfl
  have hnum := HG.out.num
  dsimp only at hnum
  have hnI : numI ⟨ki, se, ti, me, ur, hs, bo, st, co, cr, no, nn⟩ = (numF ki).map (fldI ⟨ki, se, ti, me, ur, hs, bo, st, co, cr, no, nn⟩) := rfl
  have hn2 : (numF ki).length ≤ 2 := by
    unfold numF
    repeat' split
    all_goals simp
  have hen := fun (u : World) (h : u.cell? ⟨xb, 0, none⟩ = some (.int .i64 ki)) => enumbers_any ki xb u h
  obtain ⟨nf, hnf⟩ : ∃ nf, numF ki = nf := ⟨_, rfl⟩
  rw [hnf] at hfc hnum hnI hn2
  simp only [hnf] at hen
  obtain ⟨nl, hnl⟩ : ∃ nl, nf.length = nl := ⟨_, rfl⟩
  rw [hnl] at hn2
  have HNL := Lib.hid hnl
  have HNI := Lib.hid hnI
  have HNUM := Lib.hid hnum
  have HFC := Lib.hid hfc
  have HEN := Lib.hid hen
  clear hfc hnum hnI hnf hen hnl
  have c10 := HG1.out.ce c0
  go_wp2_with (go_at_call 42; refine Calls.mono (HEN.out _ c10) ?_; rintro e w2' ⟨Bp, rfl, hrp, -, hgp⟩; rw [HNL.out] at hrp ⊢; have HRP := Lib.hid hrp; have HGP := Lib.hid hgp; clear hrp hgp)
  go_loopw [8, 48] (fun v i wr => ∃ j : Nat, i = .int .i64 (j : Int) ∧ j ≤ nl ∧ OutP bz (o3 ++ lebs ((nf.take j).map (fldI ⟨ki, se, ti, me, ur, hs, bo, st, co, cr, no, nn⟩))) (n0 + 30 + 10 * j) v wr ∧ Grew w1 wr ∧ Grew w2' wr) (fun _ i _ => nl - (intOf i).toNat)
  case atStart => exact ⟨0, rfl, Nat.zero_le _, by simpa [lebs] using HO1.out.keep HGP.out, HGP.out, Grew.rf _⟩
  case round =>
    obtain ⟨j, rfl, hj, ho, hg, hg'⟩ := hrel
    by_cases hlt : j < nl
    · obtain ⟨pb, po, hBe, hcells⟩ := HRP.out.cells (by omega)
      obtain ⟨f, hf⟩ : ∃ f, nf[j]? = some f := ⟨_, List.getElem?_eq_getElem (by rw [HNL.out]; exact hlt)⟩
      have hpc : (w2').cell? ⟨pb, po + j, none⟩ = some (.pointer (some ⟨xb, f, none⟩)) := hcells j _ (by simp [hf])
      have hpc' := hg'.ce hpc
      have hfm := List.mem_of_getElem? hf
      have hfv := (HG1.out.tr hg).ce (HFC.out f hfm)
      have hfb := HNUM.out f hfm
      obtain ⟨z, hz⟩ : ∃ z, fldI ⟨ki, se, ti, me, ur, hs, bo, st, co, cr, no, nn⟩ f = z := ⟨_, rfl⟩
      rw [hz] at hfv hfb
      subst hBe
      obtain ⟨zb0, zb1⟩ := hfb
      obtain ⟨B, m, d, rfl, hcl⟩ := lebPut_out (z := z) ho (by omega) (Nat.le_trans (HBZ.out _ HG1.out) hg.size) zb0 (by omega)
      have HZ := Lib.hid hz
      have HF := Lib.hid hf
      have HCL := Lib.hid hcl
      have HGG := Lib.hid hg
      have HGG' := Lib.hid hg'
      clear hpc hfm ho hcl hg hg' hz hf hcells
      go_wp2_with (go_at_call 41; refine Calls.mono HCL.out ?_; rintro e w3 ⟨v3, rfl, ho3, hg3⟩)
      go_roundw
      case rel =>
        have e : (nf.take (j + 1)).map (fldI ⟨ki, se, ti, me, ur, hs, bo, st, co, cr, no, nn⟩) = (nf.take j).map (fldI ⟨ki, se, ti, me, ur, hs, bo, st, co, cr, no, nn⟩) ++ [z] := by
          rw [List.take_add_one, HF.out, List.map_append, ← HZ.out]; rfl
        refine ⟨j + 1, by go_num, by omega, ?_, HGG.out.tr hg3, HGG'.out.tr hg3⟩
        rw [e, lebs_snoc, ← List.append_assoc]
        exact ho3
      case measure => simp [intOf]; omega
    · have he : nf.take j = nf := List.take_of_length_le (by rw [HNL.out]; omega)
      rw [he] at ho
      have ho2 : OutP bz (o3 ++ lebs (nf.map (fldI ⟨ki, se, ti, me, ur, hs, bo, st, co, cr, no, nn⟩))) (n0 + 60) u8 wr := by
        obtain ⟨B, m, d, h1, h2, h3, h4, h5, h6, h7⟩ := ho
        exact ⟨B, m, d, h1, h2, h3, h4, h5, h6, by omega⟩
      obtain ⟨o4, ho4⟩ : ∃ o4, o3 ++ lebs (nf.map (fldI ⟨ki, se, ti, me, ur, hs, bo, st, co, cr, no, nn⟩)) = o4 := ⟨_, rfl⟩
      rw [ho4] at ho2
      have HE4 := Lib.hid ho4
      have HG4 := Lib.hid (HG1.out.tr hg)
      have HO4 := Lib.hid ho2
      clear ho ho2 hg hg' he ho4 HRP HGP HEN HFC HNUM HO1 c10 hn2
      go_upto_region 13 with fail
      clear hlt hj
      have e9 : wr.cell? ⟨xb, 9, none⟩ = some (.bool cr) := cell_of_heap (heap_keep HG4.out HX3.out) rfl
      have e0 : wr.cell? ⟨xb, 0, none⟩ = some (.int .i64 ki) := cell_of_heap (heap_keep HG4.out HX3.out) rfl
      have e11 : wr.cell? ⟨xb, 11, none⟩ = some (.int .u64 nn) := cell_of_heap (heap_keep HG4.out HX3.out) rfl
      go_upto_block 3 with fail
      have hnn := HW.out.nn
      dsimp only at hnn
      go_cut [8] from 60 to 74 (fun v wx => OutP bz (o4 ++ midE ⟨ki, se, ti, me, ur, hs, bo, st, co, cr, no, nn⟩) (n0 + 100) v wx ∧ Grew W wx)
      case first =>
        have hsz4 : bz ≤ wr.heap.size := HBZ.out _ HG4.out
        by_cases h2 : ki = 2
        · have hmid : o4 ++ midE ⟨ki, se, ti, me, ur, hs, bo, st, co, cr, no, nn⟩ = o4 ++ leb (if cr then 1 else 0) ++ leb nn := by rw [List.append_assoc]; simp [midE, h2]
          have HMID := Lib.hid hmid
          obtain ⟨zc, hzc⟩ : ∃ zc : Int, (if cr then (1 : Int) else 0) = zc := ⟨_, rfl⟩
          have hbit := fun (u : World) => bit_any cr u
          simp only [hzc] at hbit
          have hz01 : 0 ≤ zc ∧ zc ≤ 1 := by rw [← hzc]; cases cr <;> simp
          have HZC := Lib.hid hzc
          have HBIT := Lib.hid hbit
          obtain ⟨B, m, d, rfl, hcl⟩ := lebPut_out (z := zc) HO4.out (by omega) hsz4 (by omega) (by omega)
          have HCL := Lib.hid hcl
          clear hmid hcl hzc hbit HO4
          subst h2
          go_wp2_with (first | (have hh := HC2; go_at_call 41; refine Calls.mono HC2.out ?_; rintro e w4 ⟨v4, rfl, ho4, hg4⟩) | (go_at_call 43; refine Calls.mono (HBIT.out _) ?_; rintro e w4 ⟨rfl, rfl⟩) | (go_at_call 41; refine Calls.mono HCL.out ?_; rintro e w3 ⟨v3, rfl, ho3, hg3⟩; have e11' := hg3.ce e11; obtain ⟨B2, m2, d2', rfl, hcl2⟩ := lebPut_out (z := nn) ho3 (by omega) (Nat.le_trans hsz4 hg3.size) (by omega) (by omega); have HC2 := Lib.hid hcl2; clear hcl2 ho3))
          go_meet
          rw [HMID.out, HZC.out]
          obtain ⟨B, m, d, h1, h2, h3, h4, h5, h6, h7⟩ := ho4
          exact ⟨⟨B, m, d, h1, h2, h3, h4, h5, h6, by omega⟩, (HG4.out.tr hg3).tr hg4⟩
        by_cases h56 : ki = 5 ∨ ki = 6
        · have hmid : o4 ++ midE ⟨ki, se, ti, me, ur, hs, bo, st, co, cr, no, nn⟩ = o4 ++ leb nn := by simp [midE, h2, h56]
          have HMID := Lib.hid hmid
          obtain ⟨B, m, d, rfl, hcl⟩ := lebPut_out (z := nn) HO4.out (by omega) hsz4 (by omega) (by omega)
          have HCL := Lib.hid hcl
          clear hmid hcl HO4
          rcases h56 with rfl | rfl
          all_goals
            go_wp2_with (go_at_call 41; refine Calls.mono HCL.out ?_; rintro e w3 ⟨v3, rfl, ho3, hg3⟩)
            go_meet
            rw [HMID.out]
            obtain ⟨B, m, d, h1, h2, h3, h4, h5, h6, h7⟩ := ho3
            exact ⟨⟨B, m, d, h1, h2, h3, h4, h5, h6, by omega⟩, HG4.out.tr hg3⟩
        have hmid : o4 ++ midE ⟨ki, se, ti, me, ur, hs, bo, st, co, cr, no, nn⟩ = o4 := by simp [midE, h2, h56]
        have HMID := Lib.hid hmid
        have h5 : ki ≠ 5 := fun e => h56 (.inl e)
        have h6 : ki ≠ 6 := fun e => h56 (.inr e)
        have d2 : (ki == 2) = false := by simpa using h2
        have d5 : (ki == 5) = false := by simpa using h5
        have d6 : (ki == 6) = false := by simpa using h6
        have dd2 : decide (ki = 2) = false := by simpa using h2
        have dd5 : decide (ki = 5) = false := by simpa using h5
        have dd6 : decide (ki = 6) = false := by simpa using h6
        clear hmid
        go_wp2_with fail
        go_meet
        rw [HMID.out]
        obtain ⟨B, m, d, h1, h2, h3, h4, h5, h6, h7⟩ := HO4.out
        exact ⟨⟨B, m, d, h1, h2, h3, h4, h5, h6, by omega⟩, HG4.out⟩
      case rest =>
      obtain ⟨ho5, hg5⟩ := hcut
      obtain ⟨o5, ho5e⟩ : ∃ o5, o4 ++ midE ⟨ki, se, ti, me, ur, hs, bo, st, co, cr, no, nn⟩ = o5 := ⟨_, rfl⟩
      rw [ho5e] at ho5
      obtain ⟨w5, hw5⟩ : ∃ w5, w5 = wc := ⟨_, rfl⟩
      subst hw5
      have HE5 := Lib.hid ho5e
      clear ho5e e0 e9 e11 hnn HO4 HG4 c0 c1 c2
      have hw0 : w.heap.size = bz := HBZ0.out
      have hx5 := heap_keep hg5 HX3.out
      have h0 : w5.cell? ⟨xb, 0, none⟩ = some (.int .i64 ki) := cell_of_heap hx5 rfl
      have hst : TabO w tp lv mb o5 s.ts (n0 + 100) lv u8 w5 := TabO.start HB.out.tab (HGW3.out.tr hg5) (by rw [hw0]; exact ho5)
      have hwd := ewords_any ki xb
      have hwI : worE ⟨ki, se, ti, me, ur, hs, bo, st, co, cr, no, nn⟩ = (worF ki).map (fldT ⟨ki, se, ti, me, ur, hs, bo, st, co, cr, no, nn⟩) := rfl
      have hwn : (worF ki).length ≤ 4 ∧ ∀ f ∈ worF ki, f = 3 ∨ f = 4 ∨ f = 10 ∨ f = 6 := by
        unfold worF
        repeat' split
        all_goals simp
      obtain ⟨wf, hwf⟩ : ∃ wf, worF ki = wf := ⟨_, rfl⟩
      simp only [hwf] at hwd hwI hwn
      obtain ⟨wl, hwl⟩ : ∃ wl, wf.length = wl := ⟨_, rfl⟩
      have hwn1 := hwn.1
      rw [hwl] at hwn1
      have hwn2 := hwn.2
      have hts : ∀ f ∈ wf, (fldT ⟨ki, se, ti, me, ur, hs, bo, st, co, cr, no, nn⟩ f).size ≤ 2048 := fun f hf => by
        have g1 := HG.out.me; have g2 := HG.out.no; have g3 := HG.out.ur; have g4 := HG.out.bo
        dsimp only at g1 g2 g3 g4
        rcases hwn2 f hf with rfl | rfl | rfl | rfl <;> (simp only [fldT]; simp; omega)
      have hcf : ∀ (u : World), u.heap[xb]? = some (.cells #[.int .i64 ki, .int .i64 se, .int .i64 ti, .string me, .string ur, .slice A n c, .string bo, .int .i64 st, .int .i64 co, .bool cr, .string no, .int .u64 nn] 34) → ∀ f ∈ wf, u.cell? ⟨xb, f, none⟩ = some (.string (fldT ⟨ki, se, ti, me, ur, hs, bo, st, co, cr, no, nn⟩ f)) := fun u hu f hf => by
        rcases hwn2 f hf with rfl | rfl | rfl | rfl
        · exact cell_of_heap hu rfl
        · exact cell_of_heap hu rfl
        · exact cell_of_heap hu rfl
        · exact cell_of_heap hu rfl
      have hfew := HB.out.few
      have hcells := HB.out.cells
      rw [HT0.out] at hcells
      have hap := HB.out.apart
      have HX5 := Lib.hid hx5
      have HST := Lib.hid hst
      have HWD := Lib.hid hwd
      have HWI := Lib.hid hwI
      have HWL := Lib.hid hwl
      have HTS := Lib.hid hts
      have HCF := Lib.hid hcf
      have HFEW := Lib.hid hfew
      have HCELLS := Lib.hid hcells
      have HAP := Lib.hid hap
      have HG5 := Lib.hid hg5
      clear hx5 hst hwd hwI hwl hwf hts hcf hfew hcells hap hg5 hwn hwn2 ho5 hw0
      go_upto_block 6 with (go_at_call 44; refine Calls.mono (HWD.out _ h0) ?_; rintro e w6 ⟨Bw, rfl, hrp, hty, hgp⟩; rw [HWL.out] at hrp ⊢; have HRP := Lib.hid hrp; have HTY := Lib.hid hty; have HGP := Lib.hid hgp; clear hrp hty hgp)
      have hB6 := HB3.out.keep (HG5.out.tr HGP.out)
      obtain ⟨FW, hFW⟩ : ∃ FW : List Nat → List ByteArray, (fun l => l.map (fldT ⟨ki, se, ti, me, ur, hs, bo, st, co, cr, no, nn⟩)) = FW := ⟨_, rfl⟩
      have hFs : ∀ (l : List Nat) (f : Nat), FW (l ++ [f]) = FW l ++ [fldT ⟨ki, se, ti, me, ur, hs, bo, st, co, cr, no, nn⟩ f] := fun l f => by rw [← hFW]; simp
      have hF0 : FW [] = [] := by rw [← hFW]; rfl
      have hFe : FW wf = worE ⟨ki, se, ti, me, ur, hs, bo, st, co, cr, no, nn⟩ := by rw [← hFW, HWI.out]
      have hFl : ∀ l, (FW l).length = l.length := fun l => by rw [← hFW]; simp
      have hFz : ∀ j, ∀ t ∈ FW (wf.take j), t.size ≤ 10000 := fun j t ht => by
        rw [← hFW] at ht
        obtain ⟨f, hf, rfl⟩ := List.mem_map.1 ht
        have := HTS.out f (List.mem_of_mem_take hf)
        omega
      have HFS := Lib.hid hFs
      have HF0 := Lib.hid hF0
      have HFE := Lib.hid hFe
      have HFL := Lib.hid hFl
      have HFZ := Lib.hid hFz
      clear hFW hFs hF0 hFe hFl hFz
      have k60 : s.ts.length ≤ 60 * k := HFEW.out
      have K60 := Lib.hid k60
      clear k60
      go_cut [8] from 77 to 90 (fun v wx => ∃ l', TabO w tp lv mb (o5 ++ (putTs s.ts (FW wf)).1) (putTs s.ts (FW wf)).2 (n0 + 100000) l' v wx ∧ wx.heap[xb]? = some (.cells #[.int .i64 ki, .int .i64 se, .int .i64 ti, .string me, .string ur, .slice A n c, .string bo, .int .i64 st, .int .i64 co, .bool cr, .string no, .int .u64 nn] 34))
      case first =>
        go_wp2_with fail
        go_loopw [8, 77] (fun v i wr => ∃ (j : Nat) (l' : Value), i = .int .i64 (j : Int) ∧ j ≤ wl ∧ TabO w tp lv mb (o5 ++ (putTs s.ts (FW (wf.take j))).1) (putTs s.ts (FW (wf.take j))).2 (n0 + 100 + 10020 * j) l' v wr ∧ wr.heap[xb]? = some (.cells #[.int .i64 ki, .int .i64 se, .int .i64 ti, .string me, .string ur, .slice A n c, .string bo, .int .i64 st, .int .i64 co, .bool cr, .string no, .int .u64 nn] 34) ∧ RdV 1 wr Bw wl (ptrs xb wf) ∧ RowKit.Hid (∀ ad, Bw = some ad → ∃ cs T fr, wr.heap[ad.block]? = some (.cells cs T fr) ∧ T ≠ 117 ∧ T ≠ 9)) (fun _ i _ => wl - (intOf i).toNat)
        case atStart =>
          refine ⟨0, lv, rfl, Nat.zero_le _, ?_, heap_keep HGP.out HX5.out, HRP.out, HTY.out⟩
          rw [List.take_zero, HF0.out]
          simp only [putTs, List.append_nil, Nat.mul_zero, Nat.add_zero]
          exact HST.out.keep HGP.out
        case round =>
          obtain ⟨j, l', rfl, hj, hT, hxr, hrp, HTYj⟩ := hrel
          by_cases hlt : j < wl
          · obtain ⟨pb, po, hBe, hcells⟩ := hrp.cells (by omega)
            obtain ⟨f, hf⟩ : ∃ f, wf[j]? = some f := ⟨_, List.getElem?_eq_getElem (by rw [HWL.out]; exact hlt)⟩
            have hpc : wr.cell? ⟨pb, po + j, none⟩ = some (.pointer (some ⟨xb, f, none⟩)) := hcells j _ (by simp [hf])
            have hfm := List.mem_of_getElem? hf
            have hfv := HCF.out wr hxr f hfm
            have hfz := HTS.out f hfm
            obtain ⟨z, hz⟩ : ∃ z, fldT ⟨ki, se, ti, me, ur, hs, bo, st, co, cr, no, nn⟩ f = z := ⟨_, rfl⟩
            rw [hz] at hfv hfz
            obtain ⟨us, hus⟩ : ∃ us, putTs s.ts (FW (wf.take j)) = us := ⟨_, rfl⟩
            rw [hus] at hT
            have hlen := putTs_len (FW (wf.take j)) s.ts (HFZ.out j) (by rw [HFL.out, List.length_take, HWL.out]; have := K60.out; omega)
            rw [hus, HFL.out, List.length_take, HWL.out] at hlen
            have hul : us.2.length ≤ 60 * k + 4 := by have := K60.out; omega
            have hcp : wr.cell? ⟨p, 0, none⟩ = some (.pointer (some ⟨tp, 0, none⟩)) := cell_of_heap (hT.chg.by_ HCELLS.out HAP.out.2.1) rfl
            obtain ⟨B, m, d, hve, hle, hcap, hrd, hfr, hu8, hmN⟩ := hT.out
            subst hve
            have hmlen := hrd.len
            have hap2 : 0 < m → ∀ ad, B = some ad → ¬ ftp tp l' mb ad.block := fun _ ad e => hT.ap _ (by rw [e]; rfl)
            have htp := fun (u : World) (hu : Grew wr u) => tput_any tp l' mb us.2 z B m d (o5 ++ us.1) u (hT.tab.keep hu) (hrd.keep hu) hap2 (by omega) (by omega) (by omega)
            have hpl := putT_len2 us.2 z (by omega) (by omega)
            have HT := Lib.hid hT
            have HXR := Lib.hid hxr
            have HRPj := Lib.hid hrp
            have HZ := Lib.hid hz
            have HF := Lib.hid hf
            have HUS := Lib.hid hus
            have HTP := Lib.hid htp
            have HPL := Lib.hid hpl
            have HML := Lib.hid hmlen
            subst hBe
            clear hT hxr hrp hz hf hus htp hpl hmlen hlen hle hcap hrd hfr hu8 hap2 hfm hcells
            go_upto_region 22 with fail
            refine region_split 8 [[], [(0, 81)], [(0, 81), (1, 82)], [(0, 81), (1, 82), (2, 83)], [], [], [(5, 86)], [(5, 86), (6, 87)], [(0, 81), (1, 82), (2, 83), (3, 84), (4, 85), (5, 86), (6, 87), (7, 88)], [(0, 81), (1, 82), (2, 83), (3, 84), (4, 85), (5, 86), (6, 87), (7, 88), (8, 89)]] [(0, 81), (1, 82), (2, 83), (3, 84), (4, 85), (5, 86), (6, 87), (7, 88)] (fun
              | 0 => .eqv (.pointer (some ⟨p, 0, none⟩)) | 1 => .eqv (.pointer (some ⟨p, 0, none⟩)) | 2 => .eqv (.pointer (some ⟨p, 0, none⟩)) | 3 => .eqv (.pointer (some ⟨tp, 0, none⟩)) | 4 => .eqv (.slice B m d) | 5 => .eqv (.pointer (some ⟨xb, f, none⟩)) | 6 => .eqv (.pointer (some ⟨xb, f, none⟩)) | 7 => .eqv (.string z) | _ => .any) (by kernel_rfl) ?_ ?_
            · refine ⟨fun u hu => ?_, fun u hu => ?_, fun u hu => ?_, fun u hu => ?_, fun u hu => ?_, fun u hu => ?_, fun u hu => ?_, fun u hu => ?_, trivial⟩
              · refine StepGoal.nil ?_
                go_wp2
                exact ⟨rfl, rfl, Grew.rf _, rfl⟩
              · rintro _ rfl
                refine StepGoal.nil ?_
                simp only [Act.put, List.setIfInBounds_toArray, List.set_cons_zero, List.set_cons_succ]
                go_wp2
                exact ⟨rfl, rfl, Grew.rf _, rfl⟩
              · rintro _ rfl _ rfl
                refine StepGoal.nil ?_
                simp only [Act.put, List.setIfInBounds_toArray, List.set_cons_zero, List.set_cons_succ]
                go_wp2
                exact ⟨rfl, rfl, Grew.rf _, rfl⟩
              · rintro _ rfl _ rfl _ rfl
                have hce := hu.ce hcp
                refine StepGoal.nil ?_
                simp only [Act.put, List.setIfInBounds_toArray, List.set_cons_zero, List.set_cons_succ]
                go_wp2
                exact ⟨rfl, rfl, Grew.rf _, rfl⟩
              · refine StepGoal.nil ?_
                go_wp2
                exact ⟨rfl, rfl, Grew.rf _, rfl⟩
              · refine StepGoal.nil ?_
                go_wp2
                exact ⟨rfl, rfl, Grew.rf _, rfl⟩
              · rintro _ rfl
                refine StepGoal.nil ?_
                simp only [Act.put, List.setIfInBounds_toArray, List.set_cons_zero, List.set_cons_succ]
                go_wp2
                exact ⟨rfl, rfl, Grew.rf _, rfl⟩
              · rintro _ rfl _ rfl
                have hce := hu.ce hfv
                refine StepGoal.nil ?_
                simp only [Act.put, List.setIfInBounds_toArray, List.set_cons_zero, List.set_cons_succ]
                go_wp2
                exact ⟨rfl, rfl, Grew.rf _, rfl⟩
            · intro u hu
              rintro _ rfl _ rfl _ rfl _ rfl _ rfl _ rfl _ rfl _ rfl
              refine StepGoal.nil ?_
              simp only [Act.put, List.setIfInBounds_toArray, List.set_cons_zero, List.set_cons_succ]; simp only [List.drop_succ_cons, List.drop_zero]
              go_wp2_with (go_at_call 23; refine Calls.mono (HTP.out _ hu) ?_; rintro e w7 ⟨B7, m7, d7, rfl, Q⟩)
              have hTu := HT.out.keep hu
              have hbound : m7 ≤ n0 + 100 + 10020 * (j + 1) := by have h1 := Q.rd.len; have h2 := HPL.out; have h3 := HML.out; simp only [List.length_append] at h1 h3; omega
              obtain ⟨l7, hT7⟩ := hTu.put Q hbound
              have hx7 := hTu.other Q (heap_keep hu HXR.out) (by decide) (by decide)
              have hty7 := HTYj.out
              have hr7 : RdV 1 w7 (some ⟨pb, po, none⟩) wl (ptrs xb wf) := (HRPj.out.keep hu).chg Q.chg (fun _ ad e => by obtain ⟨cs, T, fr, h1, h2, h3⟩ := hty7 ad e; exact ftp_nobook hTu.tab (heap_keep hu h1) h2 h3)
              have hty8 : ∀ ad, (some ⟨pb, po, none⟩ : Option Addr) = some ad → ∃ cs T fr, w7.heap[ad.block]? = some (.cells cs T fr) ∧ T ≠ 117 ∧ T ≠ 9 := fun ad e => by obtain ⟨cs, T, fr, h1, h2, h3⟩ := hty7 ad e; exact ⟨cs, T, fr, hTu.other Q (heap_keep hu h1) h2 h3, h2, h3⟩
              go_roundw
              case rel =>
                have e : FW (wf.take (j + 1)) = FW (wf.take j) ++ [z] := by rw [List.take_add_one, HF.out, Option.toList_some, HFS.out, HZ.out]
                refine ⟨j + 1, l7, by go_num, by omega, ?_, hx7, hr7, hty8⟩
                rw [e, putTs_snoc, HUS.out]
                dsimp only
                rw [← List.append_assoc]
                exact hT7
              case measure => simp [intOf]; omega
          · have he : wf.take j = wf := List.take_of_length_le (by rw [HWL.out]; omega)
            rw [he] at hT
            have HT := Lib.hid hT
            have HXR := Lib.hid hxr
            clear hT hxr hrp
            go_wp2_with fail
            go_meet
            obtain ⟨h1, h2, ⟨B, m, d, a1, a2, a3, a4, a5, a6, a7⟩, h4, h5⟩ := HT.out
            exact ⟨l', ⟨h1, h2, ⟨B, m, d, a1, a2, a3, a4, a5, a6, by omega⟩, h4, h5⟩, HXR.out⟩
      case rest =>
      obtain ⟨l6, hT6, hx6⟩ := hcut
      obtain ⟨w6', hw6⟩ : ∃ w6', w6' = wc := ⟨_, rfl⟩
      subst hw6
      rw [HFE.out] at hT6
      have hlen6 := putTs_len (FW wf) s.ts (fun t ht => HFZ.out wl t (by rw [List.take_of_length_le (by rw [HWL.out]; omega)]; exact ht)) (by rw [HFL.out, HWL.out]; have := K60.out; omega)
      rw [HFL.out, HWL.out, HFE.out] at hlen6
      obtain ⟨us6, hus6⟩ : ∃ us6, putTs s.ts (worE ⟨ki, se, ti, me, ur, hs, bo, st, co, cr, no, nn⟩) = us6 := ⟨_, rfl⟩
      rw [hus6] at hT6 hlen6
      have hul6 : us6.2.length ≤ 60 * k + 4 := by have := K60.out; omega
      obtain ⟨o6, ho6⟩ : ∃ o6, o5 ++ us6.1 = o6 := ⟨_, rfl⟩
      rw [ho6] at hT6
      have HE6 := Lib.hid ho6
      have HUS6 := Lib.hid hus6
      have hnoH : ∀ k cs fr, w.heap[k]? = some (.cells cs 124 fr) → ¬ ftp tp lv mb k := fun k cs fr h => ftp_nobook HB.out.tab h (by decide) (by decide)
      have hM6 : MapL w6' lb k s.L := HB.out.map.chg hT6.chg HAP.out.2.2 hnoH
      have hA6 : 0 < n → ∀ ad, A = some ad → ¬ ftb p tp l6 mb lb ad.block := fun h0 ad e hk => by
        have h1 := HAF.out h0 ad e
        obtain ⟨b, o, hAe, hcl⟩ := HR.out.cells (by omega)
        have hlt : ad.block < w.heap.size := by
          rw [hAe] at e; cases e
          have hle : 0 < (hcs hs).length := by rw [hcs_len, HL.out]; omega
          exact lt_of_cell (p := ⟨b, o + 0, none⟩) (hcl 0 _ (List.getElem?_eq_getElem hle))
        rcases hk with hk | hk | hk
        · exact h1 (.inl hk)
        · exact h1 (.inr (.inl hk))
        · rcases hT6.ft _ hk with h2 | h2
          · exact h1 (.inr (.inr h2))
          · omega
      have hr6 : RdH w6' A n hs := HR.out.chg hT6.chg (fun h0 ad e h => HAF.out h0 ad e (.inr (.inr h)))
      have hcells6 := hT6.chg.by_ HCELLS.out HAP.out.2.1
      have h0 : w6'.cell? ⟨xb, 0, none⟩ = some (.int .i64 ki) := cell_of_heap hx6 rfl
      have h5 : w6'.cell? ⟨xb, 5, none⟩ = some (.slice A n c) := cell_of_heap hx6 rfl
      have p0 : w6'.cell? ⟨p, 0, none⟩ = some (.pointer (some ⟨tp, 0, none⟩)) := cell_of_heap hcells6 rfl
      have p2 : w6'.cell? ⟨p, 2, none⟩ = some (.map (some lb)) := cell_of_heap hcells6 rfl
      have hhd := HG.out.hd
      dsimp only at hhd
      have HT6 := Lib.hid hT6
      have HX6 := Lib.hid hx6
      have HM6 := Lib.hid hM6
      have HA6 := Lib.hid hA6
      have HR6 := Lib.hid hr6
      have HHD := Lib.hid hhd
      have HNOH := Lib.hid hnoH
      clear hT6 hx6 ho6 hus6 hnoH hM6 hA6 hr6 hcells6 hhd hlen6 HRP HTY HGP HST HWD HG5 HX5 HTS HCF HFS HF0 HFZ hB6 HB3 HGW3 HX3 HBZ
      go_upto_block 8 with fail
      go_cut [8] from 91 to 111 (fun v wx => ∃ l', TabO w tp lv mb (o6 ++ (dltB s ⟨ki, se, ti, me, ur, hs, bo, st, co, cr, no, nn⟩ us6.2).1) (dltB s ⟨ki, se, ti, me, ur, hs, bo, st, co, cr, no, nn⟩ us6.2).2 (n0 + 900000) l' v wx ∧ wx.heap[xb]? = some (.cells #[.int .i64 ki, .int .i64 se, .int .i64 ti, .string me, .string ur, .slice A n c, .string bo, .int .i64 st, .int .i64 co, .bool cr, .string no, .int .u64 nn] 34))
      case first =>
        by_cases hkL : isL ki = true
        case neg =>
          have hk0 : isL ki = false := by simpa using hkL
          have hd0 : dltB s ⟨ki, se, ti, me, ur, hs, bo, st, co, cr, no, nn⟩ us6.2 = ([], us6.2) := by simp [dltB, hk0]
          have h3 : ki ≠ 1 ∧ ki ≠ 2 ∧ ki ≠ 3 := by simpa [isL] using hk0
          obtain ⟨h1, h2, h3⟩ := h3
          have d1 : (ki == 1) = false := by simpa using h1
          have d2 : (ki == 2) = false := by simpa using h2
          have d3 : (ki == 3) = false := by simpa using h3
          have e1 : decide (ki = 1) = false := by simpa using h1
          have e2 : decide (ki = 2) = false := by simpa using h2
          have e3 : decide (ki = 3) = false := by simpa using h3
          have HD0 := Lib.hid hd0
          clear hkL hd0 hk0
          go_wp2_with fail
          go_meet
          rw [HD0.out, List.append_nil]
          obtain ⟨h1, h2, ⟨B, m, d, a1, a2, a3, a4, a5, a6, a7⟩, h4, h5⟩ := HT6.out
          exact ⟨l6, ⟨h1, h2, ⟨B, m, d, a1, a2, a3, a4, a5, a6, by omega⟩, h4, h5⟩, HX6.out⟩
        case pos =>
          have h123 : ki = 1 ∨ ki = 2 ∨ ki = 3 := by simpa [isL] using hkL
          have hof := fun (u : World) => of_any ⟨ki, se, ti, me, ur, hs, bo, st, co, cr, no, nn⟩ A n c u
          dsimp only at hof
          obtain ⟨b3, hb3⟩ : ∃ b3, decide (ki = 3) = b3 := ⟨_, rfl⟩
          simp only [hb3] at hof
          have hd0 : dltB s ⟨ki, se, ti, me, ur, hs, bo, st, co, cr, no, nn⟩ us6.2 = putD us6.2 (s.L se b3) hs := by simp [dltB, hkL, hb3]
          have HD0 := Lib.hid hd0
          obtain ⟨xc, hxc⟩ : ∃ xc : Array Value, #[.int .i64 ki, .int .i64 se, .int .i64 ti, .string me, .string ur, .slice A n c, .string bo, .int .i64 st, .int .i64 co, .bool cr, .string no, .int .u64 nn] = xc := ⟨_, rfl⟩
          have hxs : xc.size = 12 := by rw [← hxc]; rfl
          simp only [evV, evA, hxc] at hof
          have hx0 := HX6.out
          rw [hxc] at hx0
          have HXC := Lib.hid hxc
          have HOF := Lib.hid hof
          have HX := Lib.hid hx0
          obtain ⟨B, m, d, hve, hle, hcap, hrd, hfr, hu8, hmN⟩ := HT6.out.out
          subst hve
          have hz6 : ∀ h ∈ hs, h.1.size ≤ 10000 ∧ h.2.size ≤ 10000 := fun h hh => by have := HHD.out h hh; omega
          have hpdl := putD_len us6.2 (s.L se b3) hs (by rw [HL.out]; exact hn25) hz6 (by omega)
          have hdp := fun (u : World) (hu : Grew w6' u) (Aw : Option Addr) (nw cw : Nat) (hl : LstI u Aw nw cw (s.L se b3)) => dput_any tp l6 mb us6.2 B m d o6 Aw nw cw (s.L se b3) A n c hs u (HT6.out.tab.keep hu) (hrd.keep hu) hl.rd (HR6.out.keep hu) (fun _ ad e => HT6.out.ap _ (by rw [e]; rfl)) (fun h0 ad e h => HA6.out h0 ad e (.inr (.inr h))) (Nat.le_trans hl.few (by omega)) (by omega) hnc hc (by omega) hz6 (by omega)
          have HDP := Lib.hid hdp
          have HPDL := Lib.hid hpdl
          have HML := Lib.hid hrd.len
          clear hb3 hxc hx0 hkL hof hd0 hle hcap hrd hfr hu8 hz6 hpdl hdp
          rcases h123 with rfl | rfl | rfl
          all_goals
            go_upto_region 28 with fail
            clear h0
            refine region_split 14 [[], [], [(1, 98)], [(1, 98), (2, 99)], [(1, 98), (2, 99), (3, 100)], [], [(5, 102)], [(5, 102), (6, 103)], [(5, 102), (6, 103), (7, 104)], [], [(9, 106)], [(5, 102), (6, 103), (7, 104), (8, 105), (10, 107)], [], [(12, 109)], [(0, 97), (1, 98), (2, 99), (3, 100), (4, 101), (5, 102), (6, 103), (7, 104), (8, 105), (9, 106), (10, 107), (11, 108), (12, 109), (13, 110)], [(0, 97), (1, 98), (2, 99), (3, 100), (4, 101), (5, 102), (6, 103), (7, 104), (8, 105), (9, 106), (10, 107), (11, 108), (12, 109), (13, 110), (14, 111)]] [(0, 97), (1, 98), (2, 99), (3, 100), (4, 101), (5, 102), (6, 103), (7, 104), (8, 105), (9, 106), (10, 107), (11, 108), (12, 109), (13, 110)] (fun
              | 0 => .eqv (.slice B m d) | 1 => .eqv (.pointer (some ⟨p, 0, none⟩)) | 2 => .eqv (.pointer (some ⟨p, 0, none⟩)) | 3 => .eqv (.pointer (some ⟨p, 0, none⟩)) | 4 => .eqv (.pointer (some ⟨tp, 0, none⟩)) | 5 => .eqv (.pointer (some ⟨p, 0, none⟩)) | 6 => .eqv (.pointer (some ⟨p, 0, none⟩)) | 7 => .eqv (.pointer (some ⟨p, 2, none⟩)) | 8 => .eqv (.map (some lb)) | 9 => .eqv (.agg xc) | 10 => .eqv (skV se b3) | 11 => .lst (s.L se b3) | 12 => .eqv (.pointer (some ⟨xb, 5, none⟩)) | 13 => .eqv (.slice A n c) | _ => .any) (by kernel_rfl) ?_ ?_
            · refine ⟨fun u hu => ?_, fun u hu => ?_, fun u hu => ?_, fun u hu => ?_, fun u hu => ?_, fun u hu => ?_, fun u hu => ?_, fun u hu => ?_, fun u hu => ?_, fun u hu => ?_, fun u hu => ?_, fun u hu => ?_, fun u hu => ?_, fun u hu => ?_, trivial⟩
              · refine StepGoal.nil ?_
                go_wp2
                exact ⟨rfl, rfl, Grew.rf _, rfl⟩
              · refine StepGoal.nil ?_
                go_wp2
                exact ⟨rfl, rfl, Grew.rf _, rfl⟩
              · rintro _ rfl
                refine StepGoal.nil ?_
                simp only [Act.put, List.setIfInBounds_toArray, List.set_cons_zero, List.set_cons_succ]
                go_wp2
                exact ⟨rfl, rfl, Grew.rf _, rfl⟩
              · rintro _ rfl _ rfl
                refine StepGoal.nil ?_
                simp only [Act.put, List.setIfInBounds_toArray, List.set_cons_zero, List.set_cons_succ]
                go_wp2
                exact ⟨rfl, rfl, Grew.rf _, rfl⟩
              · rintro _ rfl _ rfl _ rfl
                have hce := hu.ce p0
                refine StepGoal.nil ?_
                simp only [Act.put, List.setIfInBounds_toArray, List.set_cons_zero, List.set_cons_succ]
                go_wp2
                exact ⟨rfl, rfl, Grew.rf _, rfl⟩
              · refine StepGoal.nil ?_
                go_wp2
                exact ⟨rfl, rfl, Grew.rf _, rfl⟩
              · rintro _ rfl
                refine StepGoal.nil ?_
                simp only [Act.put, List.setIfInBounds_toArray, List.set_cons_zero, List.set_cons_succ]
                go_wp2
                exact ⟨rfl, rfl, Grew.rf _, rfl⟩
              · rintro _ rfl _ rfl
                refine StepGoal.nil ?_
                simp only [Act.put, List.setIfInBounds_toArray, List.set_cons_zero, List.set_cons_succ]
                go_wp2
                exact ⟨rfl, rfl, Grew.rf _, rfl⟩
              · rintro _ rfl _ rfl _ rfl
                have hce := hu.ce p2
                refine StepGoal.nil ?_
                simp only [Act.put, List.setIfInBounds_toArray, List.set_cons_zero, List.set_cons_succ]
                go_wp2
                exact ⟨rfl, rfl, Grew.rf _, rfl⟩
              · have hx9 := heap_keep hu HX.out
                refine StepGoal.nil ?_
                go_wp2_with (refine ld_row (.inl rfl) rfl rfl hx9 rfl Try.underlying34 (by rw [hxs]; kernel_rfl) ?_)
                exact ⟨rfl, rfl, Grew.rf _, rfl⟩
              · rintro _ rfl
                refine StepGoal.nil ?_
                simp only [Act.put, List.setIfInBounds_toArray, List.set_cons_zero, List.set_cons_succ]
                go_wp2_with (go_at_call 45; refine Calls.mono (HOF.out _) ?_; rintro e w3 ⟨rfl, hg3⟩)
                exact ⟨rfl, rfl, hg3, rfl⟩
              · rintro _ rfl _ rfl _ rfl _ rfl _ rfl
                obtain ⟨Aw, nw, cw, hrun, hli⟩ := (HM6.out.keep hu).look se b3 (by omega) (by omega)
                refine StepGoal.nil ?_
                simp only [Act.put, List.setIfInBounds_toArray, List.set_cons_zero, List.set_cons_succ]
                go_wp2
                exact ⟨rfl, rfl, Grew.rf _, Aw, nw, cw, rfl, hli⟩
              · refine StepGoal.nil ?_
                go_wp2
                exact ⟨rfl, rfl, Grew.rf _, rfl⟩
              · rintro _ rfl
                have hce := hu.ce h5
                refine StepGoal.nil ?_
                simp only [Act.put, List.setIfInBounds_toArray, List.set_cons_zero, List.set_cons_succ]
                go_wp2
                exact ⟨rfl, rfl, Grew.rf _, rfl⟩
            · intro u hu
              rintro _ rfl _ rfl _ rfl _ rfl _ rfl _ rfl _ rfl _ rfl _ rfl _ rfl _ rfl v108 h108 _ rfl _ rfl
              refine StepGoal.nil ?_
              simp only [Act.put, List.setIfInBounds_toArray, List.set_cons_zero, List.set_cons_succ]; simp only [List.drop_succ_cons, List.drop_zero]
              obtain ⟨Aw, nw, cw, rfl, hli⟩ : (Pd.lst (s.L se b3)).p v108 u := h108
              have HLI := Lib.hid hli
              clear hli
              go_wp2_with (go_at_call 30; refine Calls.mono (HDP.out _ hu Aw nw cw HLI.out) ?_; rintro e w7 ⟨B7, m7, d7, rfl, Q⟩)
              go_meet
              have hTu := HT6.out.keep hu
              have hbound : m7 ≤ n0 + 900000 := by have h1 := Q.rd.len; have h2 := HPDL.out; have h3 := HML.out; simp only [List.length_append] at h1; omega
              obtain ⟨l7, hT7⟩ := hTu.put Q hbound
              rw [HD0.out]
              exact ⟨l7, hT7, hTu.other Q (heap_keep hu HX6.out) (by decide) (by decide)⟩
      case rest =>
      obtain ⟨l7, hT7, hx7⟩ := hcut
      obtain ⟨w7', hw7⟩ : ∃ w7', w7' = wc := ⟨_, rfl⟩
      subst hw7
      obtain ⟨us7, hus7⟩ : ∃ us7, dltB s ⟨ki, se, ti, me, ur, hs, bo, st, co, cr, no, nn⟩ us6.2 = us7 := ⟨_, rfl⟩
      have hul7 : us7.2.length ≤ 60 * (k + 1) := by
        rw [← hus7]
        unfold dltB
        split
        · have := putD_len us6.2 (s.L se (decide (ki = 3))) hs (by rw [HL.out]; exact hn25) (fun h hh => by have := HHD.out h hh; omega) (by omega)
          dsimp only at this ⊢
          omega
        · dsimp only; omega
      rw [hus7] at hT7
      have HUS7 := Lib.hid hus7
      have hM7 : MapL w7' lb k s.L := HB.out.map.chg hT7.chg HAP.out.2.2 HNOH.out
      have hcells7 := hT7.chg.by_ HCELLS.out HAP.out.2.1
      have hr7 : RdH w7' A n hs := HR.out.chg hT7.chg (fun h0 ad e h => HAF.out h0 ad e (.inr (.inr h)))
      have hB7 : BookI w7' p tp l7 mb lb (k + 1) ⟨us7.2, t0, s.L⟩ := ⟨hcells7, hT7.tab, hM7.mono (by omega), HB.out.ne, hb0, hb1, hul7, by omega⟩
      have hA7 : 0 < n → ∀ ad, A = some ad → ¬ ftb p tp l7 mb lb ad.block := fun h0 ad e hk => by
        have h1 := HAF.out h0 ad e
        obtain ⟨b, o, hAe, hcl⟩ := HR.out.cells (by omega)
        have hlt : ad.block < w.heap.size := by
          rw [hAe] at e; cases e
          have hle : 0 < (hcs hs).length := by rw [hcs_len, HL.out]; omega
          exact lt_of_cell (p := ⟨b, o + 0, none⟩) (hcl 0 _ (List.getElem?_eq_getElem hle))
        rcases hk with hk | hk | hk
        · exact h1 (.inl hk)
        · exact h1 (.inr (.inl hk))
        · rcases hT7.ft _ hk with h2 | h2
          · exact h1 (.inr (.inr h2))
          · omega
      have htd := told_any p tp l7 mb lb (k + 1) ⟨us7.2, t0, s.L⟩ ⟨ki, se, ti, me, ur, hs, bo, st, co, cr, no, nn⟩ A n c w7' hB7 hr7 HAN.out hn25 hg2.1 hg2.2 hg3.1 hg3.2 hA7 (by omega)
      obtain ⟨B, m, d, hve, hle, hcap, hrd, hfr, hu8, hmN⟩ := hT7.out
      subst hve
      have HTD := Lib.hid htd
      have HT7 := Lib.hid hT7
      have HX7 := Lib.hid hx7
      have HRD := Lib.hid hrd
      have HFR := Lib.hid hfr
      have HU8 := Lib.hid hu8
      have hx0 := hx7
      clear htd hT7 hx7 hus7 hM7 hcells7 hr7 hB7 hA7 hrd hfr hu8 h0 h5 p0 p2
      go_wp2_with (first | ((with_reducible refine gate_ld' 34 (.tmp 5) rfl ?_); refine ld_row (.inl rfl) rfl rfl hx0 rfl Try.underlying34 (by kernel_rfl) ?_) | (go_at_call 46; refine Calls.mono HTD.out ?_; rintro e w8 ⟨rfl, hQ8⟩) | (go_at_call 47; refine Calls.mono (clip_any _ _ _ _ hle hcap) ?_; rintro e w9 ⟨rfl, rfl⟩))
      refine bodyPost_ret (v := .tuple #[.slice B m m, .int .i64 0]) (by simp [results, Try.results14, go_sem]) rfl ⟨.slice B m m, rfl, ?_⟩
      have hbk : ∀ ad, B = some ad → ¬ ftd p lb ad.block := fun ad e hk => by
        have h1 := HFR.out ad e
        rcases hk with hk | hk
        · have := HB.out.lt (.inl rfl); omega
        · have := HB.out.lt (.inr (.inl rfl)); omega
      have hout : bs ++ (putB s ⟨ki, se, ti, me, ur, hs, bo, st, co, cr, no, nn⟩).1 = o6 ++ us7.1 := by
        rw [← HE6.out, ← HE5.out, ← HE4.out, ← HE3.out, ← HE2.out, ← HE1.out]
        simp only [putB, headB, HNI.out, HT0.out, HUS6.out, HUS7.out, List.append_assoc]
      have hst : (putB s ⟨ki, se, ti, me, ur, hs, bo, st, co, cr, no, nn⟩).2 = toldB ⟨us7.2, t0, s.L⟩ us7.2 ⟨ki, se, ti, me, ur, hs, bo, st, co, cr, no, nn⟩ := by
        simp only [putB, HUS6.out, HUS7.out, toldB]
      rw [hout, hst]
      refine ⟨⟨B, m, m, rfl, Nat.le_refl _, by omega, HRD.out.chg hQ8.chg (fun _ => hbk), HFR.out, fun ad e => ?_, by omega⟩, ⟨l7, hQ8.book, fun b hb => ?_, fun b hb hk => ?_⟩, ?_⟩
      · obtain ⟨cs, fr, hc8⟩ := HU8.out ad e
        exact ⟨cs, fr, hQ8.chg.by_ hc8 (hbk ad e)⟩
      · rcases hb with hb | hb | hb
        · exact .inl (.inl hb)
        · exact .inl (.inr (.inl hb))
        · exact (HT7.out.ft b hb).imp (fun h => .inr (.inr h)) (fun h => h)
      · cases B with
        | none => cases hb
        | some ad =>
          have e1 : ad.block = b := by simpa [Value.ownBlock] using hb
          rcases hk with hk | hk | hk
          · exact hbk ad rfl (.inl (by omega))
          · exact hbk ad rfl (.inr (by omega))
          · exact HT7.out.ap b (by simpa [Value.ownBlock] using hb) hk
      · exact (HT7.out.chg.mono (fun b h => .inr (.inr h))).tr (hQ8.chg.mono (fun b h => .inl (h.elim .inl (fun h => .inr (.inl h)))))
end Go.Proofs.Ytbkcpgaicoagfaa
