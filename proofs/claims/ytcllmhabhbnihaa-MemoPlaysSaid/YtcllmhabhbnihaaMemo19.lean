/- Memo: the walk of MemoPlays. -/
import Derived.Test.YtcllmhabhbnihaaMemo18
set_option linter.unusedVariables false
set_option linter.unusedSimpArgs false
namespace Go.Proofs.Ytcllmhabhbnihaa
open Go.RowKit

/-- The memo and the reference's, apart, made behind the world W. -/
structure Half (W u : World) (p q k : Nat) (l1 l2 : List Ask) : Prop where
  both : ∃ lv A n c, MemoI u p lv k l1 ∧ RmI u q A n c k l2 ∧ (∀ j, ftm p lv j → W.heap.size ≤ j ∧ j ≠ q) ∧ ∀ ad, A = some ad → ¬ ftm p lv ad.block
  q0 : W.heap.size ≤ q
  grew : Grew W u
theorem Half.keep {W u u' : World} {p q k : Nat} {l1 l2 : List Ask} (h : Half W u p q k l1 l2) (hg : Grew u u') : Half W u' p q k l1 l2 := by
  obtain ⟨⟨lv, A, n, c, h1, h2, h3, h4⟩, h5, h6⟩ := h
  exact ⟨⟨lv, A, n, c, h1.keep hg, h2.keep hg, h3, h4⟩, h5, h6.tr hg⟩
theorem Half.mstep {W u u' : World} {p q k : Nat} {l1 l2 l' : List Ask} {lv A n c} (h1 : MemoI u p lv k l1) (h2 : RmI u q A n c k l2) (h3 : ∀ j, ftm p lv j → W.heap.size ≤ j ∧ j ≠ q) (h4 : ∀ ad, A = some ad → ¬ ftm p lv ad.block) (h5 : W.heap.size ≤ q) (h6 : Grew W u) (hQ : MemoQ u u' p lv k l') : Half W u' p q k l' l2 := by
  obtain ⟨⟨lv', h7, h8⟩, h9⟩ := hQ
  refine ⟨⟨lv', A, n, c, h7, h2.chg h9 (fun h => (h3 q h).2 rfl) h4, fun j hj => ?_, fun ad e hj => ?_⟩, h5, grew_chg h6 h9 (fun j hj => (h3 j hj).1)⟩
  · rcases h8 j hj with h | h
    · exact h3 j h
    · have := h6.size; have := h2.lt; exact ⟨by omega, by omega⟩
  · rcases h8 _ hj with h | h
    · exact h4 ad e h
    · have := h2.low ad e; omega
theorem Half.rstep {W u u' : World} {p q k : Nat} {l1 l2 l' : List Ask} {lv A n c} (h1 : MemoI u p lv k l1) (h2 : RmI u q A n c k l2) (h3 : ∀ j, ftm p lv j → W.heap.size ≤ j ∧ j ≠ q) (h5 : W.heap.size ≤ q) (h6 : Grew W u) (hQ : RmQ u u' q k l') : Half W u' p q k l1 l' := by
  obtain ⟨⟨A', n', c', h7, h8⟩, h9⟩ := hQ
  refine ⟨⟨lv, A', n', c', h1.chg h9 (fun j hj => (h3 j hj).2), h7, h3, fun ad e hj => ?_⟩, h5, grew_chg h6 h9 (fun j hj => by omega)⟩
  have := h8 ad e
  have := h1.lt hj
  omega
theorem half_put (W u : World) (p q k : Nat) (l1 l2 : List Ask) (x : Ask) (now : Int) (h : Half W u p q k l1 l2) :
    Calls Try.prog 13 #[.pointer (some ⟨p, 0, none⟩), aV x, .int .i64 now] u fun e w' => e = .returned (.tuple #[]) ∧ Half W w' p q k (putM k l1 x now) l2 ∧ ∀ tb, tb < u.heap.size → (∀ lv', MemoI u p lv' k l1 → ¬ ftm p lv' tb) → w'.heap[tb]? = u.heap[tb]? := by
  obtain ⟨⟨lv, A, n, c, h1, h2, h3, h4⟩, h5, h6⟩ := h
  refine Calls.mono (mput_any p lv k l1 x now u h1) ?_
  rintro e w' ⟨rfl, hQ⟩
  exact ⟨rfl, Half.mstep h1 h2 h3 h4 h5 h6 hQ, fun tb ht hn => hQ.chg.block tb ht (hn lv h1)⟩
theorem half_drop (W u : World) (p q k : Nat) (l1 l2 : List Ask) (fr ur : ByteArray) (h : Half W u p q k l1 l2) :
    Calls Try.prog 9 #[.pointer (some ⟨p, 0, none⟩), .string fr, .string ur] u fun e w' => e = .returned (.tuple #[]) ∧ Half W w' p q k (l1.filter fun y => !decide (y.1 = fr ∧ y.2.1 = ur)) l2 ∧ ∀ tb, tb < u.heap.size → (∀ lv', MemoI u p lv' k l1 → ¬ ftm p lv' tb) → w'.heap[tb]? = u.heap[tb]? := by
  obtain ⟨⟨lv, A, n, c, h1, h2, h3, h4⟩, h5, h6⟩ := h
  refine Calls.mono (mdrop_any p lv k l1 fr ur u h1) ?_
  rintro e w' ⟨rfl, hQ⟩
  exact ⟨rfl, Half.mstep h1 h2 h3 h4 h5 h6 hQ, fun tb ht hn => hQ.chg.block tb ht (hn lv h1)⟩
theorem half_rput (W u : World) (p q k : Nat) (l1 l2 : List Ask) (x : Ask) (now : Int) (h : Half W u p q k l1 l2) :
    Calls Try.prog 14 #[.pointer (some ⟨q, 0, none⟩), aV x, .int .i64 now] u fun e w' => e = .returned (.tuple #[]) ∧ Half W w' p q k l1 (putM k l2 x now) := by
  obtain ⟨⟨lv, A, n, c, h1, h2, h3, h4⟩, h5, h6⟩ := h
  refine Calls.mono (rput_any q A n c k l2 x now u h2) ?_
  rintro e w' ⟨rfl, hQ⟩
  exact ⟨rfl, Half.rstep h1 h2 h3 h5 h6 hQ⟩
theorem half_rdrop (W u : World) (p q k : Nat) (l1 l2 : List Ask) (fr ur : ByteArray) (h : Half W u p q k l1 l2) :
    Calls Try.prog 10 #[.pointer (some ⟨q, 0, none⟩), .string fr, .string ur] u fun e w' => e = .returned (.tuple #[]) ∧ Half W w' p q k l1 (l2.filter fun y => !decide (y.1 = fr ∧ y.2.1 = ur)) := by
  obtain ⟨⟨lv, A, n, c, h1, h2, h3, h4⟩, h5, h6⟩ := h
  refine Calls.mono (rdrop_any q A n c k l2 fr ur u h2) ?_
  rintro e w' ⟨rfl, hQ⟩
  exact ⟨rfl, Half.rstep h1 h2 h3 h5 h6 hQ⟩
theorem half_has (W u : World) (p q k : Nat) (l1 l2 : List Ask) (x : Ask) (now : Int) (h : Half W u p q k l1 l2) :
    Calls Try.prog 11 #[.pointer (some ⟨p, 0, none⟩), aV x, .int .i64 now] u fun e w' => e = .returned (.bool (l1.any (hasP x now))) ∧ Grew u w' := by
  obtain ⟨⟨lv, A, n, c, h1, h2, h3, h4⟩, h5, h6⟩ := h
  exact mhas_any p lv k l1 x now u h1
theorem half_rhas (W u : World) (p q k : Nat) (l1 l2 : List Ask) (x : Ask) (now : Int) (h : Half W u p q k l1 l2) :
    Calls Try.prog 12 #[.pointer (some ⟨q, 0, none⟩), aV x, .int .i64 now] u fun e w' => e = .returned (.bool (l2.any (hasP x now))) ∧ Grew u w' := by
  obtain ⟨⟨lv, A, n, c, h1, h2, h3, h4⟩, h5, h6⟩ := h
  exact rhas_any q A n c k l2 x now u h2
theorem half_list (W u : World) (p q k : Nat) (l1 l2 : List Ask) (h : Half W u p q k l1 l2) :
    Calls Try.prog 16 #[.pointer (some ⟨p, 0, none⟩)] u fun e w' => ∃ B, e = .returned (.slice B l1.length l1.length) ∧ RdA w' B l1.length l1 ∧ Grew u w' := by
  obtain ⟨⟨lv, A, n, c, h1, h2, h3, h4⟩, h5, h6⟩ := h
  refine Calls.mono (mlist_any p lv k l1 u h1) ?_
  rintro e w' ⟨B, c, rfl, hO, hg⟩
  obtain ⟨A, c', e, -, -, hr⟩ := hO.rd
  cases e
  exact ⟨B, rfl, hr, hg⟩
theorem half_fresh {W u u' : World} {p q k tb : Nat} {l1 l2 : List Ask} (h : Half W u p q k l1 l2) (hg : Grew u u') (ht : u.heap.size ≤ tb) : ∀ lv', MemoI u' p lv' k l1 → ¬ ftm p lv' tb := by
  obtain ⟨⟨lv, A, n, c, h1, h2, h3, h4⟩, h5, h6⟩ := h
  intro lv' hM hf
  have e1 := (h1.keep hg).cells
  rw [hM.cells] at e1
  simp only [Option.some.injEq, Obj.cells.injEq, Array.mk.injEq, List.cons.injEq, and_true, true_and] at e1
  obtain rfl : lv' = lv := by simpa using e1
  have := h1.lt hf
  omega
theorem half_same (W u : World) (p q k : Nat) (l1 l2 : List Ask) (h : Half W u p q k l1 l2) : ∃ A n c, u.cell? ⟨q, 1, none⟩ = some (.slice A n c) ∧ l2.length = n ∧ l1.length ≤ 64 ∧ n ≤ 64 ∧ ∀ u', Grew u u' → ∀ B m d, RdA u' B m l1 → l1.length = m →
    Calls Try.prog 15 #[.slice B m d, .slice A n c] u' fun e w' => e = .returned (.bool (decide (l1 = l2))) ∧ Grew u' w' := by
  obtain ⟨⟨lv, A, n, c, h1, h2, h3, h4⟩, h5, h6⟩ := h
  have hf1 := h1.few
  have hf2 := h2.few
  have hm := h1.most
  refine ⟨A, n, c, cell_of_heap h2.cells rfl, h2.rd.lenA, by omega, by omega, fun u' hg B m d hB hm' => Same15_any B m d l1 A n c l2 u' hB (h2.rd.keep hg) (by omega) (by omega)⟩
def pdL (n : Nat) (l : List Ask) : Pd := ⟨fun v u => ∃ B, v = .slice B n n ∧ RdA u B n l, fun v u u' ⟨B, h1, h2⟩ hg => ⟨B, h1, h2.keep hg⟩⟩

set_option maxRecDepth 100000 in
set_option maxHeartbeats 6400000 in
theorem plays_good (k : Nat) (A : Option Addr) (n c : Nat) (ds : List Dee) (w : World) (h1 : 1 ≤ k) (h2 : k ≤ 64) (hr : RdD w A n ds) (hwf : ∀ d ∈ ds, 0 ≤ d.1 ∧ d.1 < 256) (hn : n ≤ c) (hc : c ≤ 9223372036854775807) :
    Calls Try.prog 3 #[.int .i64 (k : Int), .slice A n c] w fun e w' => e = .returned (.bool true) ∧ Below w.heap.size w w' := by
  have hnew := fun (u : World) => mnew_any k u h1 h2
  have hrnew := fun (u : World) => rnew_any k u h1 h2
  have HNEW := Lib.hid hnew
  have HRNEW := Lib.hid hrnew
  have HR := Lib.hid hr
  have HWF := Lib.hid hwf
  clear hnew hrnew hr hwf
  go_enter Try.func3, Try.ntmps3
  go_wp2_with (first | (go_at_call 6; refine Calls.mono (HNEW.out _) ?_; rintro e w1 ⟨p, rfl, hM1, hg1, hwp⟩; have HM1 := Lib.hid hM1; have HG1 := Lib.hid hg1; clear hM1 hg1) | (go_at_call 7; refine Calls.mono (HRNEW.out _) ?_; rintro e w2 ⟨q, rfl, hI2, hg2, hwq⟩; have hH : Half w w2 p q k [] [] := ⟨⟨_, _, _, _, HM1.out.keep hg2, hI2, fun j hj => hj.elim (fun h => by subst h; exact ⟨hwp, fun e => by have := HM1.out.lt (.inl rfl); omega⟩) (fun h => by cases h), fun _ e => by cases e⟩, Nat.le_trans HG1.out.size hwq, HG1.out.tr hg2⟩; have HH := Lib.hid hH; clear hI2 hg2 hH HM1 HG1))
  go_loopw [9] (fun s9 wr => ∃ (i : Nat) (l : List Ask), s9 = .int .i64 (i : Int) ∧ i ≤ n ∧ i ≤ 60 ∧ RowKit.Hid (Half w wr p q k l l)) (fun s9 _ => n - (intOf s9).toNat)
  case atStart => exact ⟨0, [], rfl, by omega, by omega, HH⟩
  case round =>
    obtain ⟨i, l, rfl, hin, hi60, HK⟩ := hrel
    clear HNEW HRNEW HH
    go_upto_region 8 with fail
    go_cut [42] from 35 to 42 (fun f wx => f = .bool (decide (i < n ∧ i < 60)) ∧ wr = wx)
    case first =>
      by_cases hlt : i < n
      · by_cases h7 : i < 60
        · have hd := decide_eq_true (p := i < n ∧ i < 60) ⟨hlt, h7⟩
          have HD := Lib.hid hd
          clear hd
          go_wp2
          go_meet
          exact ⟨by rw [HD.out, decide_eq_true (p := (i : Int) < 60) (by omega)], rfl⟩
        · have hd := decide_eq_false (p := i < n ∧ i < 60) (fun h => h7 h.2)
          have HD := Lib.hid hd
          clear hd
          go_wp2
          go_meet
          exact ⟨by rw [HD.out, decide_eq_false (p := (i : Int) < 60) (by omega)], rfl⟩
      · have hd := decide_eq_false (p := i < n ∧ i < 60) (fun h => hlt h.1)
        have HD := Lib.hid hd
        clear hd
        go_wp2
        go_meet
        exact ⟨by rw [HD.out], rfl⟩
    case rest =>
      obtain ⟨rfl, rfl⟩ := hcut
      by_cases hlt : i < n ∧ i < 60
      · rw [decide_eq_true hlt]
        obtain ⟨hlt, h7⟩ := hlt
        obtain ⟨b, o, d, rfl, hdi, dk, d6, dn⟩ := HR.out.atD hlt
        have hdw := HWF.out d (List.mem_of_getElem? hdi)
        have hk0 := HK.out.grew.ce dk
        have hkn := HK.out.grew.ce dn
        obtain ⟨c0, c1, c2, c3, c4, c5⟩ := d6.keep HK.out.grew
        clear hdi dk d6 dn
        obtain ⟨dk, dx, dt⟩ := d
        dsimp only at hdw hk0 hkn c0 c1 c2 c3 c4 c5
        go_upto_region 11 with fail
        have htb := heap_alloc_new wr (.cells #[.int .u8 dk, .string dx.1, .string dx.2.1, .bool dx.2.2.1, .string dx.2.2.2.1, .string dx.2.2.2.2.1, .int .i64 dx.2.2.2.2.2, .int .i64 dt] 34)
        have hgt := (Grew.rf wr).al (.cells #[.int .u8 dk, .string dx.1, .string dx.2.1, .bool dx.2.2.1, .string dx.2.2.2.1, .string dx.2.2.2.2.1, .int .i64 dx.2.2.2.2.2, .int .i64 dt] 34)
        obtain ⟨Wt, hWt⟩ : ∃ Wt, wr.alloc (.cells #[.int .u8 dk, .string dx.1, .string dx.2.1, .bool dx.2.2.1, .string dx.2.2.2.1, .string dx.2.2.2.2.1, .int .i64 dx.2.2.2.2.2, .int .i64 dt] 34) = Wt := ⟨_, rfl⟩
        obtain ⟨tb, htbn⟩ : ∃ tb, wr.heap.size = tb := ⟨_, rfl⟩
        rw [hWt] at htb hgt ⊢
        rw [htbn] at htb ⊢
        have hHT := HK.out.keep hgt
        have hfr := half_fresh HK.out hgt (tb := tb) (by omega)
        have htl : tb < Wt.heap.size := (Array.getElem?_eq_some_iff.1 htb).1
        have six_of : ∀ u : World, u.heap[tb]? = some (.cells #[.int .u8 dk, .string dx.1, .string dx.2.1, .bool dx.2.2.1, .string dx.2.2.2.1, .string dx.2.2.2.2.1, .int .i64 dx.2.2.2.2.2, .int .i64 dt] 34) → SixC u tb 1 dx ∧ u.cell? ⟨tb, 7, none⟩ = some (.int .i64 dt) := fun _ h => ⟨⟨cell_of_heap h rfl, cell_of_heap h rfl, cell_of_heap h rfl, cell_of_heap h rfl, cell_of_heap h rfl, cell_of_heap h rfl⟩, cell_of_heap h rfl⟩
        have HT := Lib.hid hHT
        have HFR := Lib.hid hfr
        have T6 := Lib.hid (six_of _ htb).1
        have TN := Lib.hid (six_of _ htb).2
        have HTB := Lib.hid htb
        have HSIX := Lib.hid six_of
        have hk0' := cell_of_heap (i := 0) htb rfl
        clear hk0 hkn c0 c1 c2 c3 c4 c5 htb hgt hWt htbn hHT hfr six_of HK
        obtain ⟨kk, rfl⟩ : ∃ kk : Nat, dk = (kk : Int) := ⟨dk.toNat, by omega⟩
        have hkk : kk < 256 := by omega
        clear hdw
        obtain ⟨c0, c1, c2, c3, c4, c5⟩ := T6.out
        have hce7 := TN.out
        by_cases hm0 : kk % 4 = 0
        · have hb0 : ((kk : Int) % 4 == 0) = true := by simp; omega
          clear hm0
          go_upto_region 16 with (go_at_call 9; refine Calls.mono (half_drop _ _ _ _ _ _ _ _ _ HT.out) ?_; rintro e w3 ⟨rfl, hH3, hpr⟩; have HH3 := Lib.hid hH3; have HPR := Lib.hid ((hpr tb htl HFR.out).trans HTB.out); clear hH3 hpr c0 c1 c2 c3 c4 c5 hce7)
          obtain ⟨⟨c0, c1, c2, c3, c4, c5⟩, hce7⟩ := HSIX.out _ HPR.out
          go_upto_region 20 with (go_at_call 10; refine Calls.mono (half_rdrop _ _ _ _ _ _ _ _ _ HH3.out) ?_; rintro e w4 ⟨rfl, hH4⟩; have HH4 := Lib.hid hH4; clear hH4 c0 c1 c2 c3 c4 c5 hce7)
          obtain ⟨A2, n2, c2, hq2, hn2, hl64, hn64, hsame⟩ := half_same _ _ _ _ _ _ _ HH4.out
          have hlist := fun (u : World) (hu : Grew _ u) => half_list _ u _ _ _ _ _ (HH4.out.keep hu)
          obtain ⟨ln, hln⟩ : ∃ ln, ln = (l.filter fun y => !decide (y.1 = dx.1 ∧ y.2.1 = dx.2.1)) := ⟨_, rfl⟩
          rw [← hln] at HH4 hn2 hl64 hsame hlist
          rw [hn2] at hlist
          have HLI := Lib.hid hlist
          have HSM := Lib.hid hsame
          have HQ2 := Lib.hid hq2
          have HN2 := Lib.hid hn2
          clear hln hlist hsame hq2 hn2 hl64
          go_upto_region 20 with fail
          refine region_grew [[], [(0, 97)], [], [(2, 99)], [(3, 100)], [(4, 101)], [(1, 98), (5, 102)], [(6, 103)]] [(0, 97), (1, 98), (2, 99), (3, 100), (4, 101), (5, 102), (6, 103), (7, 104)] (fun
            | 0 => .eqv (.pointer (some ⟨p, 0, none⟩)) | 1 => pdL n2 ln | 2 => .eqv (.pointer (some ⟨q, 0, none⟩)) | 3 => .eqv (.pointer (some ⟨q, 0, none⟩)) | 4 => .eqv (.pointer (some ⟨q, 1, none⟩)) | 5 => .eqv (.slice A2 n2 c2) | 6 => .eqv (.bool true) | 7 => .eqv (.bool false) | _ => .any) (by kernel_rfl) ?_ ?_
          · refine ⟨fun u hu => ?_, fun u hu => ?_, fun u hu => ?_, fun u hu => ?_, fun u hu => ?_, fun u hu => ?_, fun u hu => ?_, fun u hu => ?_, trivial⟩
            · refine StepGoal.nil ?_
              go_wp2
              exact ⟨rfl, rfl, Grew.rf _, rfl⟩
            · rintro _ rfl
              refine StepGoal.nil ?_
              simp only [Act.put, List.setIfInBounds_toArray, List.set_cons_zero, List.set_cons_succ]
              go_wp2_with (go_at_call 16; refine Calls.mono (HLI.out u hu) ?_; rintro e w' ⟨B, rfl, hB, hg⟩)
              exact ⟨rfl, rfl, hg, ⟨B, rfl, hB⟩⟩
            · refine StepGoal.nil ?_
              go_wp2
              exact ⟨rfl, rfl, Grew.rf _, rfl⟩
            · rintro _ rfl
              refine StepGoal.nil ?_
              simp only [Act.put, List.setIfInBounds_toArray, List.set_cons_zero, List.set_cons_succ]
              go_wp2
              exact ⟨rfl, rfl, Grew.rf _, rfl⟩
            · rintro _ rfl
              refine StepGoal.nil ?_
              simp only [Act.put, List.setIfInBounds_toArray, List.set_cons_zero, List.set_cons_succ]
              go_wp2
              exact ⟨rfl, rfl, Grew.rf _, rfl⟩
            · rintro _ rfl
              have hce := hu.ce HQ2.out
              refine StepGoal.nil ?_
              simp only [Act.put, List.setIfInBounds_toArray, List.set_cons_zero, List.set_cons_succ]
              go_wp2
              exact ⟨rfl, rfl, Grew.rf _, rfl⟩
            · rintro v98 h98 _ rfl
              obtain ⟨B, rfl, hB⟩ : ∃ B, v98 = .slice B n2 n2 ∧ RdA u B n2 ln := h98; have hsm := HSM.out u hu B n2 n2 hB HN2.out; rw [decide_eq_true rfl] at hsm; have HSM2 := Lib.hid hsm; clear hsm
              refine StepGoal.nil ?_
              simp only [Act.put, List.setIfInBounds_toArray, List.set_cons_zero, List.set_cons_succ]
              go_wp2_with (go_at_call 15; refine Calls.mono HSM2.out ?_; rintro e w' ⟨rfl, hg⟩)
              exact ⟨rfl, rfl, hg, rfl⟩
            · rintro _ rfl
              refine StepGoal.nil ?_
              simp only [Act.put, List.setIfInBounds_toArray, List.set_cons_zero, List.set_cons_succ]
              go_wp2
              exact ⟨rfl, rfl, Grew.rf _, rfl⟩
          · intro u hu
            rintro _ rfl v98 h98 _ rfl _ rfl _ rfl _ rfl _ rfl _ rfl
            refine StepGoal.nil ?_
            simp only [Act.put, List.setIfInBounds_toArray, List.set_cons_zero, List.set_cons_succ]
            have HK9 := Lib.hid (HH4.out.keep hu)
            clear hu
            go_wp2
            go_roundw
            case rel => exact ⟨i + 1, _, by go_num, by omega, by omega, HK9⟩
            case measure => simp [intOf]; omega
        · have hb0 : ((kk : Int) % 4 == 0) = false := by simp; omega
          by_cases hm1 : kk % 4 = 1
          · have hb1 : ((kk : Int) % 4 == 1) = true := by simp; omega
            clear hm0 hm1
            go_upto_region 18 with fail
            have hh1 := fun (u : World) (hu : Grew Wt u) => half_has _ u _ _ _ _ _ dx dt (HT.out.keep hu)
            have hh2 := fun (u : World) (hu : Grew Wt u) => half_rhas _ u _ _ _ _ _ dx dt (HT.out.keep hu)
            obtain ⟨hv, hhv⟩ : ∃ hv, l.any (hasP dx dt) = hv := ⟨_, rfl⟩
            rw [hhv] at hh1 hh2
            have HH1 := Lib.hid hh1
            have HH2 := Lib.hid hh2
            clear hh1 hh2 hhv c0 c1 c2 c3 c4 c5 hce7 hk0'
            go_cut [96] from 84 to 96 (fun f wx => f = .bool false ∧ Grew Wt wx)
            case first =>
              refine region_grew [[], [], [(1, 85)], [], [(3, 87)], [(0, 84), (2, 86), (4, 88)], [], [], [(7, 91)], [], [(9, 93)], [(6, 90), (8, 92), (10, 94)], [(5, 89), (11, 95)]] [(0, 84), (1, 85), (2, 86), (3, 87), (4, 88), (5, 89), (6, 90), (7, 91), (8, 92), (9, 93), (10, 94), (11, 95), (12, 96)] (fun
                | 0 => .eqv (.pointer (some ⟨p, 0, none⟩)) | 1 => .eqv (.pointer (some ⟨tb, 1, none⟩)) | 2 => .eqv (aV dx) | 3 => .eqv (.pointer (some ⟨tb, 7, none⟩)) | 4 => .eqv (.int .i64 dt) | 5 => .eqv (.bool hv) | 6 => .eqv (.pointer (some ⟨q, 0, none⟩)) | 7 => .eqv (.pointer (some ⟨tb, 1, none⟩)) | 8 => .eqv (aV dx) | 9 => .eqv (.pointer (some ⟨tb, 7, none⟩)) | 10 => .eqv (.int .i64 dt) | 11 => .eqv (.bool hv) | 12 => .eqv (.bool false) | _ => .any) (by kernel_rfl) ?_ ?_
              · refine ⟨fun u hu => ?_, fun u hu => ?_, fun u hu => ?_, fun u hu => ?_, fun u hu => ?_, fun u hu => ?_, fun u hu => ?_, fun u hu => ?_, fun u hu => ?_, fun u hu => ?_, fun u hu => ?_, fun u hu => ?_, fun u hu => ?_, trivial⟩
                · refine StepGoal.nil ?_
                  go_wp2
                  exact ⟨rfl, rfl, Grew.rf _, rfl⟩
                · refine StepGoal.nil ?_
                  go_wp2
                  exact ⟨rfl, rfl, Grew.rf _, rfl⟩
                · rintro _ rfl
                  obtain ⟨c0, c1, c2, c3, c4, c5⟩ := T6.out.keep hu
                  refine StepGoal.nil ?_
                  simp only [Act.put, List.setIfInBounds_toArray, List.set_cons_zero, List.set_cons_succ]
                  go_wp2
                  exact ⟨rfl, rfl, Grew.rf _, rfl⟩
                · refine StepGoal.nil ?_
                  go_wp2
                  exact ⟨rfl, rfl, Grew.rf _, rfl⟩
                · rintro _ rfl
                  have hce := hu.ce TN.out
                  refine StepGoal.nil ?_
                  simp only [Act.put, List.setIfInBounds_toArray, List.set_cons_zero, List.set_cons_succ]
                  go_wp2
                  exact ⟨rfl, rfl, Grew.rf _, rfl⟩
                · rintro _ rfl _ rfl _ rfl
                  refine StepGoal.nil ?_
                  simp only [Act.put, List.setIfInBounds_toArray, List.set_cons_zero, List.set_cons_succ]
                  go_wp2_with (go_at_call 11; refine Calls.mono (HH1.out u hu) ?_; rintro e w' ⟨rfl, hg⟩)
                  exact ⟨rfl, rfl, hg, rfl⟩
                · refine StepGoal.nil ?_
                  go_wp2
                  exact ⟨rfl, rfl, Grew.rf _, rfl⟩
                · refine StepGoal.nil ?_
                  go_wp2
                  exact ⟨rfl, rfl, Grew.rf _, rfl⟩
                · rintro _ rfl
                  obtain ⟨c0, c1, c2, c3, c4, c5⟩ := T6.out.keep hu
                  refine StepGoal.nil ?_
                  simp only [Act.put, List.setIfInBounds_toArray, List.set_cons_zero, List.set_cons_succ]
                  go_wp2
                  exact ⟨rfl, rfl, Grew.rf _, rfl⟩
                · refine StepGoal.nil ?_
                  go_wp2
                  exact ⟨rfl, rfl, Grew.rf _, rfl⟩
                · rintro _ rfl
                  have hce := hu.ce TN.out
                  refine StepGoal.nil ?_
                  simp only [Act.put, List.setIfInBounds_toArray, List.set_cons_zero, List.set_cons_succ]
                  go_wp2
                  exact ⟨rfl, rfl, Grew.rf _, rfl⟩
                · rintro _ rfl _ rfl _ rfl
                  refine StepGoal.nil ?_
                  simp only [Act.put, List.setIfInBounds_toArray, List.set_cons_zero, List.set_cons_succ]
                  go_wp2_with (go_at_call 12; refine Calls.mono (HH2.out u hu) ?_; rintro e w' ⟨rfl, hg⟩)
                  exact ⟨rfl, rfl, hg, rfl⟩
                · rintro _ rfl _ rfl
                  have hvv : (hv != hv) = false := by cases hv <;> rfl
                  refine StepGoal.nil ?_
                  simp only [Act.put, List.setIfInBounds_toArray, List.set_cons_zero, List.set_cons_succ]
                  go_wp2
                  exact ⟨rfl, rfl, Grew.rf _, rfl⟩
              · intro u hu
                rintro _ rfl _ rfl _ rfl _ rfl _ rfl _ rfl _ rfl _ rfl _ rfl _ rfl _ rfl _ rfl _ rfl
                refine StepGoal.nil ?_
                simp only [Act.put, List.setIfInBounds_toArray, List.set_cons_zero, List.set_cons_succ]
                go_wp2_with fail
                go_meet
                exact ⟨rfl, hu⟩
            case rest =>
              obtain ⟨rfl, hgc⟩ := hcut
              have HH4 := Lib.hid (HT.out.keep hgc)
              clear hgc
              obtain ⟨A2, n2, c2, hq2, hn2, hl64, hn64, hsame⟩ := half_same _ _ _ _ _ _ _ HH4.out
              have hlist := fun (u : World) (hu : Grew _ u) => half_list _ u _ _ _ _ _ (HH4.out.keep hu)
              obtain ⟨ln, hln⟩ : ∃ ln, ln = l := ⟨_, rfl⟩
              rw [← hln] at HH4 hn2 hl64 hsame hlist
              rw [hn2] at hlist
              have HLI := Lib.hid hlist
              have HSM := Lib.hid hsame
              have HQ2 := Lib.hid hq2
              have HN2 := Lib.hid hn2
              clear hln hlist hsame hq2 hn2 hl64
              go_upto_region 20 with fail
              refine region_grew [[], [(0, 97)], [], [(2, 99)], [(3, 100)], [(4, 101)], [(1, 98), (5, 102)], [(6, 103)]] [(0, 97), (1, 98), (2, 99), (3, 100), (4, 101), (5, 102), (6, 103), (7, 104)] (fun
                | 0 => .eqv (.pointer (some ⟨p, 0, none⟩)) | 1 => pdL n2 ln | 2 => .eqv (.pointer (some ⟨q, 0, none⟩)) | 3 => .eqv (.pointer (some ⟨q, 0, none⟩)) | 4 => .eqv (.pointer (some ⟨q, 1, none⟩)) | 5 => .eqv (.slice A2 n2 c2) | 6 => .eqv (.bool true) | 7 => .eqv (.bool false) | _ => .any) (by kernel_rfl) ?_ ?_
              · refine ⟨fun u hu => ?_, fun u hu => ?_, fun u hu => ?_, fun u hu => ?_, fun u hu => ?_, fun u hu => ?_, fun u hu => ?_, fun u hu => ?_, trivial⟩
                · refine StepGoal.nil ?_
                  go_wp2
                  exact ⟨rfl, rfl, Grew.rf _, rfl⟩
                · rintro _ rfl
                  refine StepGoal.nil ?_
                  simp only [Act.put, List.setIfInBounds_toArray, List.set_cons_zero, List.set_cons_succ]
                  go_wp2_with (go_at_call 16; refine Calls.mono (HLI.out u hu) ?_; rintro e w' ⟨B, rfl, hB, hg⟩)
                  exact ⟨rfl, rfl, hg, ⟨B, rfl, hB⟩⟩
                · refine StepGoal.nil ?_
                  go_wp2
                  exact ⟨rfl, rfl, Grew.rf _, rfl⟩
                · rintro _ rfl
                  refine StepGoal.nil ?_
                  simp only [Act.put, List.setIfInBounds_toArray, List.set_cons_zero, List.set_cons_succ]
                  go_wp2
                  exact ⟨rfl, rfl, Grew.rf _, rfl⟩
                · rintro _ rfl
                  refine StepGoal.nil ?_
                  simp only [Act.put, List.setIfInBounds_toArray, List.set_cons_zero, List.set_cons_succ]
                  go_wp2
                  exact ⟨rfl, rfl, Grew.rf _, rfl⟩
                · rintro _ rfl
                  have hce := hu.ce HQ2.out
                  refine StepGoal.nil ?_
                  simp only [Act.put, List.setIfInBounds_toArray, List.set_cons_zero, List.set_cons_succ]
                  go_wp2
                  exact ⟨rfl, rfl, Grew.rf _, rfl⟩
                · rintro v98 h98 _ rfl
                  obtain ⟨B, rfl, hB⟩ : ∃ B, v98 = .slice B n2 n2 ∧ RdA u B n2 ln := h98; have hsm := HSM.out u hu B n2 n2 hB HN2.out; rw [decide_eq_true rfl] at hsm; have HSM2 := Lib.hid hsm; clear hsm
                  refine StepGoal.nil ?_
                  simp only [Act.put, List.setIfInBounds_toArray, List.set_cons_zero, List.set_cons_succ]
                  go_wp2_with (go_at_call 15; refine Calls.mono HSM2.out ?_; rintro e w' ⟨rfl, hg⟩)
                  exact ⟨rfl, rfl, hg, rfl⟩
                · rintro _ rfl
                  refine StepGoal.nil ?_
                  simp only [Act.put, List.setIfInBounds_toArray, List.set_cons_zero, List.set_cons_succ]
                  go_wp2
                  exact ⟨rfl, rfl, Grew.rf _, rfl⟩
              · intro u hu
                rintro _ rfl v98 h98 _ rfl _ rfl _ rfl _ rfl _ rfl _ rfl
                refine StepGoal.nil ?_
                simp only [Act.put, List.setIfInBounds_toArray, List.set_cons_zero, List.set_cons_succ]
                have HK9 := Lib.hid (HH4.out.keep hu)
                clear hu
                go_wp2
                go_roundw
                case rel => exact ⟨i + 1, _, by go_num, by omega, by omega, HK9⟩
                case measure => simp [intOf]; omega
          · have hb1 : ((kk : Int) % 4 == 1) = false := by simp; omega
            clear hm0 hm1
            go_upto_region 13 with (go_at_call 13; refine Calls.mono (half_put _ _ _ _ _ _ _ _ _ HT.out) ?_; rintro e w3 ⟨rfl, hH3, hpr⟩; have HH3 := Lib.hid hH3; have HPR := Lib.hid ((hpr tb htl HFR.out).trans HTB.out); clear hH3 hpr c0 c1 c2 c3 c4 c5 hce7)
            obtain ⟨⟨c0, c1, c2, c3, c4, c5⟩, hce7⟩ := HSIX.out _ HPR.out
            go_upto_region 20 with (go_at_call 14; refine Calls.mono (half_rput _ _ _ _ _ _ _ _ _ HH3.out) ?_; rintro e w4 ⟨rfl, hH4⟩; have HH4 := Lib.hid hH4; clear hH4 c0 c1 c2 c3 c4 c5 hce7)
            obtain ⟨A2, n2, c2, hq2, hn2, hl64, hn64, hsame⟩ := half_same _ _ _ _ _ _ _ HH4.out
            have hlist := fun (u : World) (hu : Grew _ u) => half_list _ u _ _ _ _ _ (HH4.out.keep hu)
            obtain ⟨ln, hln⟩ : ∃ ln, ln = (putM k l dx dt) := ⟨_, rfl⟩
            rw [← hln] at HH4 hn2 hl64 hsame hlist
            rw [hn2] at hlist
            have HLI := Lib.hid hlist
            have HSM := Lib.hid hsame
            have HQ2 := Lib.hid hq2
            have HN2 := Lib.hid hn2
            clear hln hlist hsame hq2 hn2 hl64
            go_upto_region 20 with fail
            refine region_grew [[], [(0, 97)], [], [(2, 99)], [(3, 100)], [(4, 101)], [(1, 98), (5, 102)], [(6, 103)]] [(0, 97), (1, 98), (2, 99), (3, 100), (4, 101), (5, 102), (6, 103), (7, 104)] (fun
              | 0 => .eqv (.pointer (some ⟨p, 0, none⟩)) | 1 => pdL n2 ln | 2 => .eqv (.pointer (some ⟨q, 0, none⟩)) | 3 => .eqv (.pointer (some ⟨q, 0, none⟩)) | 4 => .eqv (.pointer (some ⟨q, 1, none⟩)) | 5 => .eqv (.slice A2 n2 c2) | 6 => .eqv (.bool true) | 7 => .eqv (.bool false) | _ => .any) (by kernel_rfl) ?_ ?_
            · refine ⟨fun u hu => ?_, fun u hu => ?_, fun u hu => ?_, fun u hu => ?_, fun u hu => ?_, fun u hu => ?_, fun u hu => ?_, fun u hu => ?_, trivial⟩
              · refine StepGoal.nil ?_
                go_wp2
                exact ⟨rfl, rfl, Grew.rf _, rfl⟩
              · rintro _ rfl
                refine StepGoal.nil ?_
                simp only [Act.put, List.setIfInBounds_toArray, List.set_cons_zero, List.set_cons_succ]
                go_wp2_with (go_at_call 16; refine Calls.mono (HLI.out u hu) ?_; rintro e w' ⟨B, rfl, hB, hg⟩)
                exact ⟨rfl, rfl, hg, ⟨B, rfl, hB⟩⟩
              · refine StepGoal.nil ?_
                go_wp2
                exact ⟨rfl, rfl, Grew.rf _, rfl⟩
              · rintro _ rfl
                refine StepGoal.nil ?_
                simp only [Act.put, List.setIfInBounds_toArray, List.set_cons_zero, List.set_cons_succ]
                go_wp2
                exact ⟨rfl, rfl, Grew.rf _, rfl⟩
              · rintro _ rfl
                refine StepGoal.nil ?_
                simp only [Act.put, List.setIfInBounds_toArray, List.set_cons_zero, List.set_cons_succ]
                go_wp2
                exact ⟨rfl, rfl, Grew.rf _, rfl⟩
              · rintro _ rfl
                have hce := hu.ce HQ2.out
                refine StepGoal.nil ?_
                simp only [Act.put, List.setIfInBounds_toArray, List.set_cons_zero, List.set_cons_succ]
                go_wp2
                exact ⟨rfl, rfl, Grew.rf _, rfl⟩
              · rintro v98 h98 _ rfl
                obtain ⟨B, rfl, hB⟩ : ∃ B, v98 = .slice B n2 n2 ∧ RdA u B n2 ln := h98; have hsm := HSM.out u hu B n2 n2 hB HN2.out; rw [decide_eq_true rfl] at hsm; have HSM2 := Lib.hid hsm; clear hsm
                refine StepGoal.nil ?_
                simp only [Act.put, List.setIfInBounds_toArray, List.set_cons_zero, List.set_cons_succ]
                go_wp2_with (go_at_call 15; refine Calls.mono HSM2.out ?_; rintro e w' ⟨rfl, hg⟩)
                exact ⟨rfl, rfl, hg, rfl⟩
              · rintro _ rfl
                refine StepGoal.nil ?_
                simp only [Act.put, List.setIfInBounds_toArray, List.set_cons_zero, List.set_cons_succ]
                go_wp2
                exact ⟨rfl, rfl, Grew.rf _, rfl⟩
            · intro u hu
              rintro _ rfl v98 h98 _ rfl _ rfl _ rfl _ rfl _ rfl _ rfl
              refine StepGoal.nil ?_
              simp only [Act.put, List.setIfInBounds_toArray, List.set_cons_zero, List.set_cons_succ]
              have HK9 := Lib.hid (HH4.out.keep hu)
              clear hu
              go_wp2
              go_roundw
              case rel => exact ⟨i + 1, _, by go_num, by omega, by omega, HK9⟩
              case measure => simp [intOf]; omega
      · rw [decide_eq_false hlt]
        clear hlt
        go_wp2_with (go_at_call 8; refine Calls.mono (awake15_any _) ?_; rintro e w9 ⟨rfl, hg9⟩)
        go_ret
        exact ⟨rfl, HK.out.grew.tr hg9⟩
set_option maxRecDepth 100000 in
set_option maxHeartbeats 1600000 in
theorem plays_bad (most : Int) (A : Option Addr) (n c : Nat) (w : World) (h : most < 1 ∨ 64 < most) :
    Calls Try.prog 3 #[.int .i64 most, .slice A n c] w fun e w' => e = .returned (.bool true) ∧ Below w.heap.size w w' := by
  have hnew := fun (u : World) => mnew_none most u h
  have hrnew := fun (u : World) => rnew_none most u h
  have HNEW := Lib.hid hnew
  have HRNEW := Lib.hid hrnew
  clear hnew hrnew h
  go_enter Try.func3, Try.ntmps3
  go_wp2_with (first | (go_at_call 6; refine Calls.mono (HNEW.out _) ?_; rintro e w1 ⟨rfl, rfl⟩) | (go_at_call 7; refine Calls.mono (HRNEW.out _) ?_; rintro e w1 ⟨rfl, rfl⟩) | (go_at_call 8; refine Calls.mono (awake15_any _) ?_; rintro e w9 ⟨rfl, hg9⟩; have HG9 := Lib.hid hg9; clear hg9))
  go_ret
  exact ⟨rfl, HG9.out⟩
theorem plays_any (most : Int) (A : Option Addr) (n c : Nat) (ds : List Dee) (w : World) (hr : RdD w A n ds) (hwf : ∀ d ∈ ds, (Lit.int .u8 d.1).wf = true) (hn : n ≤ c) (hc : c ≤ 9223372036854775807) :
    Calls Try.prog 3 #[.int .i64 most, .slice A n c] w fun e w' => e = .returned (.bool true) ∧ Below w.heap.size w w' := by
  by_cases h : 1 ≤ most ∧ most ≤ 64
  · obtain ⟨k, rfl⟩ : ∃ k : Nat, most = (k : Int) := ⟨most.toNat, by omega⟩
    refine plays_good k A n c ds w (by omega) (by omega) hr (fun d hd => ?_) hn hc
    have h0 : IntKind.u8.min ≤ d.1 ∧ d.1 ≤ IntKind.u8.max := by simpa [Lit.wf] using hwf d hd
    have h1 : 0 ≤ d.1 ∧ d.1 ≤ 255 := h0
    omega
  · exact plays_bad most A n c w (by omega)
end Go.Proofs.Ytcllmhabhbnihaa
