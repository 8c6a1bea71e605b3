/- Intern's laws: the walk of InternPuts. -/
import Derived.Test.YtbkcpgaicoagfaaPair
set_option linter.unusedVariables false
set_option linter.unusedSimpArgs false
namespace Go.Proofs.Ytbkcpgaicoagfaa
open Go.RowKit

theorem putT_len {ts : List ByteArray} {s : ByteArray} (hs : s.size ≤ 300) (hl : ts.length ≤ 1000) : (putT ts s).1.length ≤ 320 ∧ (putT ts s).2.length ≤ ts.length + 1 := by
  unfold putT
  have h0 := leb_len (v := (0 : Int)) (by omega)
  have h1 := leb_len (v := (s.size : Int)) (by omega)
  have h2 := leb_len (v := (idxT ts s : Int)) (by omega)
  split
  · simp only [List.length_append, bsOf_len, List.length_singleton]; omega
  · simp only; omega
/-- What both Puts need of the moment. -/
def BB (w0 : World) (p : Nat) (lv : Value) (mb q : Nat) (lv2 : Value) (AX : Option Addr) (nX : Nat) (AY : Option Addr) (nY : Nat) (out : List Int) (la : Addr) (t : ByteArray) (u : World) : Prop :=
  Pair w0 p lv mb q lv2 u ∧ Rd u AX nX out ∧ Rd u AY nY out ∧ u.cell? la = some (.string t)
theorem two_s {w0 : World} {p : Nat} {lv : Value} {mb q : Nat} {lv2 : Value} {AX : Option Addr} {nX : Nat} {AY : Option Addr} {nY : Nat} {out : List Int} {la : Addr} {t : ByteArray} {ts : List ByteArray} (hs : Sep w0.heap.size p lv mb q lv2)
    (hx : 0 < nX → ∀ ad, AX = some ad → ¬ ftp p lv mb ad.block ∧ ¬ ftr q lv2 ad.block) (hy : 0 < nY → ∀ ad, AY = some ad → ¬ ftp p lv mb ad.block ∧ ¬ ftr q lv2 ad.block) (hl : ¬ ftp p lv mb la.block ∧ ¬ ftr q lv2 la.block) :
    TwoS (GT p lv mb) (GR q lv2) (fun u => TabI u p lv mb ts) (fun u => RefI u q lv2 ts) (BB w0 p lv mb q lv2 AX nX AY nY out la t) where
  b0 := fun u u' ⟨h1, h2, h3, h4⟩ hg => ⟨h1.b0 hg, h2.keep hg, h3.keep hg, hg.ce h4⟩
  b1 := fun u u' ⟨h1, h2, h3, h4⟩ hg => ⟨h1.b1 hs hg, h2.chg hg.1 (fun h ad e => (hx h ad e).1), h3.chg hg.1 (fun h ad e => (hy h ad e).1), (World.cell?_of_block (hg.1.block _ (lt_of_cell h4) hl.1)).trans h4⟩
  b2 := fun u u' ⟨h1, h2, h3, h4⟩ hg => ⟨h1.b2 hs hg, h2.chg hg.1 (fun h ad e => (hx h ad e).2), h3.chg hg.1 (fun h ad e => (hy h ad e).2), (World.cell?_of_block (hg.1.block _ (lt_of_cell h4) hl.2)).trans h4⟩
  x10 := fun u u' h hg => h.keep hg
  x12 := fun u u' h hg => h.chg hg.1 (fun k hk h2 => hs.sep k hk h2)
  x20 := fun u u' h hg => h.keep hg
  x21 := fun u u' h hg => h.chg hg.1 (fun k hk h2 => hs.sep k h2 hk)

theorem RdV.chg {sz : Nat} {F : Nat → Prop} {w w' : World} {A : Option Addr} {n : Nat} {vs : List Value} (h : RdV sz w A n vs) (hg : Chg F w w') (hA : ∀ ad, A = some ad → ¬ F ad.block) : RdV sz w' A n vs :=
  ⟨h.len, fun hn => by
    obtain ⟨b, o, e, hc⟩ := h.cells hn
    exact ⟨b, o, e, fun j u hj => (World.cell?_of_block (hg.block b (lt_of_cell (hc j u hj)) (hA _ e))).trans (hc j u hj)⟩⟩
/-- What holds between two rounds. -/
structure PI19 (w : World) (p mb q : Nat) (AL : Option Addr) (l : List ByteArray) (j : Nat) (AX : Option Addr) (nX : Nat) (AY : Option Addr) (nY : Nat) (lv lv2 : Value) (out : List Int) (us : List ByteArray) (wr : World) : Prop where
  rx : Rd wr AX nX out
  ry : Rd wr AY nY out
  bx : nX ≤ 320 * j + 300
  tab : TabI wr p lv mb us
  ref : RefI wr q lv2 us
  few : us.length ≤ j
  sep : Sep wr.heap.size p lv mb q lv2
  ax : 0 < nX → ∀ ad, AX = some ad → ¬ ftp p lv mb ad.block ∧ ¬ ftr q lv2 ad.block
  ay : 0 < nY → ∀ ad, AY = some ad → ¬ ftp p lv mb ad.block ∧ ¬ ftr q lv2 ad.block
  rl : RdV 1 wr AL l.length (l.map Value.string)
  al : ∀ ad, AL = some ad → ¬ ftp p lv mb ad.block ∧ ¬ ftr q lv2 ad.block ∧ ad.block < wr.heap.size
  low : ∀ k, ftp p lv mb k ∨ ftr q lv2 k → w.heap.size ≤ k
  grew : Grew w wr
section
variable {w : World} {p mb q : Nat} {AL : Option Addr} {l : List ByteArray} {j : Nat} {AX : Option Addr} {nX : Nat} {AY : Option Addr} {nY : Nat} {lv lv2 : Value} {out : List Int} {us : List ByteArray} {wr : World}
theorem PI19.keep (h : PI19 w p mb q AL l j AX nX AY nY lv lv2 out us wr) {u : World} (hg : Grew wr u) : PI19 w p mb q AL l j AX nX AY nY lv lv2 out us u where
  rx := h.rx.keep hg
  ry := h.ry.keep hg
  bx := h.bx
  tab := h.tab.keep hg
  ref := h.ref.keep hg
  few := h.few
  sep := ⟨h.sep.sep, fun k hk => Nat.lt_of_lt_of_le (h.sep.lp k hk) hg.size, fun k hk => Nat.lt_of_lt_of_le (h.sep.lq k hk) hg.size⟩
  ax := h.ax
  ay := h.ay
  rl := h.rl.keep hg
  al := fun ad e => ⟨(h.al ad e).1, (h.al ad e).2.1, Nat.lt_of_lt_of_le (h.al ad e).2.2 hg.size⟩
  low := h.low
  grew := h.grew.tr hg
theorem PI19.next (h : PI19 w p mb q AL l j AX nX AY nY lv lv2 out us wr) {pb : List Int} {us2 : List ByteArray} (h1 : pb.length ≤ 320) (h2 : us2.length ≤ us.length + 1) {u : World} {la : Addr} {t : ByteArray} (hu : BB wr p lv mb q lv2 AX nX AY nY out la t u) {BX BY : Option Addr} {mX mY : Nat} (rx : Rd u BX mX (out ++ pb)) (ry : Rd u BY mY (out ++ pb)) (ux : U8 u BX) (uy : U8 u BY) {l1 l2 : Value} (hT : TabI u p l1 mb us2) (f1 : ∀ k, ftp p l1 mb k → ftp p lv mb k ∨ wr.heap.size ≤ k) (hR : RefI u q l2 us2) (f2 : ∀ k, ftr q l2 k → ftr q lv2 k ∨ wr.heap.size ≤ k) : PI19 w p mb q AL l (j + 1) BX mX BY mY l1 l2 (out ++ pb) us2 u where
  rx := rx
  ry := ry
  bx := by
    have h3 := rx.len
    have h4 := h.rx.len
    have h5 := h.bx
    rw [List.length_append] at h3
    omega
  tab := hT
  ref := hR
  few := by have := h.few; omega
  sep := hu.1.apart h.sep hT hR
  ax := fun _ ad e => ⟨ux.tab hT ad e, ux.ref hR ad e⟩
  ay := fun _ ad e => ⟨uy.tab hT ad e, uy.ref hR ad e⟩
  rl := h.rl.chg hu.1.chg (fun ad e hk => hk.elim (h.al ad e).1 (h.al ad e).2.1)
  al := fun ad e => ⟨fun hk => (f1 _ hk).elim (h.al ad e).1 (fun h3 => by have := (h.al ad e).2.2; omega), fun hk => (f2 _ hk).elim (h.al ad e).2.1 (fun h3 => by have := (h.al ad e).2.2; omega), Nat.lt_of_lt_of_le (h.al ad e).2.2 hu.1.chg.size⟩
  low := fun k hk => by
    have hz := h.grew.size
    rcases hk with hk | hk
    · rcases f1 k hk with h3 | h3
      · exact h.low k (.inl h3)
      · omega
    · rcases f2 k hk with h3 | h3
      · exact h.low k (.inr h3)
      · omega
  grew := grew_chg h.grew hu.1.chg h.low
end

set_option maxRecDepth 100000 in
set_option maxHeartbeats 3200000 in
theorem internPuts_walk (A0 : Option Addr) (n0 c0 : Nat) (bs0 : List Int) (A1 : Option Addr) (n1 c1 : Nat) (ts : List ByteArray) (w : World) (hr0 : Rd w A0 n0 bs0) (hnc0 : n0 ≤ c0) (hc0 : c0 ≤ 9223372036854775807) (hr1 : RdV 1 w A1 n1 (ts.map Value.string)) (hs1 : ∀ t ∈ ts, t.size ≤ 9223372036854775807) (hn1 : n1 ≤ 9223372036854775807) :
    Calls Try.prog 5 #[.slice A0 n0 c0, .slice A1 n1 c1] w fun e w' => e = .returned (.bool true) ∧ Grew w w' := by
  have hfew := fun (u : World) (hg : Grew w u) => few_any A1 n1 c1 ts u (hr1.keep hg) hs1 hn1
  have HFEW := Lib.hid hfew
  have hA0 : 0 < n0 → ∀ ad, A0 = some ad → ad.block < w.heap.size := fun hn ad e => by
    obtain ⟨b, o, e2, hc⟩ := hr0.cells hn
    rw [e2] at e
    cases e
    exact lt_of_cell (hc 0 hn)
  have HA0 := Lib.hid hA0
  clear hfew hA0 hr1 hs1 hn1
  by_cases hbig : 300 < n0
  · have hr00 := hr0.take (i := 300) (by omega)
    have hcut := cut_hi (kh := .i64) A0 n0 c0 300 (by omega)
    have hk : (300 : Nat) ≤ c0 := by omega
    have HA := Lib.hid (show 0 < 300 → ∀ ad, A0 = some ad → ad.block < w.heap.size from fun _ => HA0.out (by omega))
    obtain ⟨k0, hk0⟩ : ∃ k0, k0 = 300 := ⟨_, rfl⟩
    go_enter Try.func5, Try.ntmps5
    go_wp2_with (go_at_call 21; refine Calls.mono (tnew_any _) ?_; rintro e w1 ⟨p, mb, rfl, hT1, hg1, hp1, hm1⟩)
    refine region_grew [[], [(0, 19)], [], [(2, 21)], [(1, 20)], [(3, 22)]] [(0, 19), (1, 20), (2, 21), (3, 22), (4, 7), (5, 8)] (fun
      | 0 => .eqv (.slice A0 n0 c0) | 1 => .eqv (.slice A0 300 c0) | 2 => .eqv (.slice A0 n0 c0) | 3 => .eqv (.slice A0 300 c0) | 4 => .eqv (.slice A0 300 c0) | 5 => .eqv (.slice A0 300 c0) | _ => .any) (by kernel_rfl) ?_ ?_
    · refine ⟨fun u hu => ?_, fun u hu => ?_, fun u hu => ?_, fun u hu => ?_, fun u hu => ?_, fun u hu => ?_, trivial⟩
      · refine StepGoal.nil ?_
        go_wp2
        exact ⟨rfl, rfl, Grew.rf _, rfl⟩
      · rintro _ rfl
        refine StepGoal.nil ?_
        simp only [Act.put, List.setIfInBounds_toArray, List.set_cons_zero, List.set_cons_succ]
        go_wp2
        exact ⟨rfl, rfl, Grew.rf _, rfl⟩
      · refine StepGoal.nil ?_
        go_wp2
        exact ⟨rfl, rfl, Grew.rf _, rfl⟩
      · rintro _ rfl
        refine StepGoal.nil ?_
        simp only [Act.put, List.setIfInBounds_toArray, List.set_cons_zero, List.set_cons_succ]
        go_wp2
        exact ⟨rfl, rfl, Grew.rf _, rfl⟩
      · rintro _ rfl
        refine StepGoal.nil ?_
        simp only [Act.put, List.setIfInBounds_toArray, List.set_cons_zero, List.set_cons_succ]
        go_wp2
        exact ⟨rfl, rfl, Grew.rf _, rfl⟩
      · rintro _ rfl
        refine StepGoal.nil ?_
        simp only [Act.put, List.setIfInBounds_toArray, List.set_cons_zero, List.set_cons_succ]
        go_wp2
        exact ⟨rfl, rfl, Grew.rf _, rfl⟩
    · intro u hu
      rintro _ rfl _ rfl _ rfl _ rfl _ rfl _ rfl
      refine StepGoal.nil ?_
      simp only [Act.put, List.setIfInBounds_toArray, List.set_cons_zero, List.set_cons_succ]
      have hG1 : Grew w w1 := hg1
      have hgz : Grew (w1.alloc (.cells #[.slice none 0 0] 50)) u := hu
      clear hcut hbig
      rw [← hk0] at hr00 hk HA
      simp only [show (300 : Nat) = k0 from hk0.symm]
      obtain ⟨wz, hwz⟩ : ∃ wz, u = wz := ⟨_, rfl⟩
      subst hwz
      go_wp2_with fail
      have hTz : TabI u p (.slice none 0 0) mb [] := hT1.keep (((Grew.rf w1).al _).tr hgz)
      have hRz : RefI u w1.heap.size (.slice none 0 0) [] := RefI.keep ⟨heap_alloc_new w1 _, OwnV.nil _ _ _ _, by simp, by simp⟩ hgz
      have hGz : Grew w u := (hG1.al _).tr hgz
      have hpm : p < w1.heap.size ∧ mb < w1.heap.size := ⟨hT1.lt (.inl rfl), hT1.lt (.inr (.inl rfl))⟩
      have hzz : w1.heap.size < u.heap.size := hRz.lt (.inl rfl)
      have hw1 := hG1.size
      obtain ⟨q, hq⟩ : ∃ q, w1.heap.size = q := ⟨_, rfl⟩
      rw [hq] at hRz hpm hzz hw1 ⊢
      refine Calls.mono (HFEW.out _ hGz) ?_
      rintro e w2 ⟨vl, rfl, hol, hg2⟩
      obtain ⟨l, hl⟩ : ∃ l, fewT ts = l := ⟨_, rfl⟩
      have hll : l.length ≤ 40 := by rw [← hl, fewT_len]; omega
      have hls : ∀ t ∈ l, t.size ≤ 300 := fun t ht => by
        rw [← hl] at ht
        obtain ⟨s, _, rfl⟩ := List.mem_map.1 ht
        exact cutT_size s
      rw [hl] at hol
      obtain ⟨AL, cL, rfl, hcL, hmL, hrL⟩ := hol.rd
      have hbl : ∀ ad, AL = some ad → u.heap.size ≤ ad.block ∧ ad.block < w2.heap.size := fun ad e => ⟨hol.base_le _ (by rw [e]; rfl), hol.lt (by rw [e]; rfl)⟩
      have hz2 := hg2.size
      have hft : ∀ k, ftp p (.slice none 0 0) mb k → w.heap.size ≤ k ∧ k < q := by
        rintro k (rfl | rfl | h)
        · exact ⟨hp1, hpm.1⟩
        · exact ⟨hm1, hpm.2⟩
        · cases h
      have hfr : ∀ k, ftr q (.slice none 0 0) k → k = q := by
        rintro k (rfl | h)
        · rfl
        · cases h
      have hI0 : PI19 w p mb q AL l 0 A0 k0 A0 k0 (.slice none 0 0) (.slice none 0 0) (bs0.take k0) [] w2 :=
        ⟨hr00.keep (hGz.tr hg2), hr00.keep (hGz.tr hg2), by omega, hTz.keep hg2, hRz.keep hg2, Nat.le_refl _,
          ⟨fun k h1 h2 => by have := hft k h1; have := hfr k h2; omega, fun k h1 => by have := hft k h1; omega, fun k h1 => by have := hfr k h1; omega⟩,
          fun hn ad e => ⟨fun h => by have := hft _ h; have := HA.out hn ad e; omega, fun h => by have := hfr _ h; have := HA.out hn ad e; omega⟩,
          fun hn ad e => ⟨fun h => by have := hft _ h; have := HA.out hn ad e; omega, fun h => by have := hfr _ h; have := HA.out hn ad e; omega⟩,
          hrL, fun ad e => ⟨fun h => by have := hft _ h; have := hbl ad e; omega, fun h => by have := hfr _ h; have := hbl ad e; omega, (hbl ad e).2⟩,
          fun k h => h.elim (fun h => (hft k h).1) (fun h => by have := hfr k h; omega), hGz.tr hg2⟩
      have HLS := Lib.hid hls
      clear hls hl hol hrL hbl hft hfr hTz hRz hGz hgz hT1 hG1 hq hr00 hr0 HA HA0 HFEW hk hk0 hg2 hz2 hzz hpm hp1 hm1 hw1
      go_wp2_with fail
      go_loopw [7, 8, 10] (fun x y i wr => ∃ (j : Nat) (AX : Option Addr) (nX cX : Nat) (AY : Option Addr) (nY cY : Nat) (lv lv2 : Value) (out : List Int) (us : List ByteArray), i = .int .i64 (j : Int) ∧ x = .slice AX nX cX ∧ y = .slice AY nY cY ∧ j ≤ l.length ∧ PI19 w p mb q AL l j AX nX AY nY lv lv2 out us wr) (fun _ _ i _ => l.length - (intOf i).toNat)
      case atStart => exact ⟨0, A0, k0, c0, A0, k0, c0, _, _, _, _, rfl, rfl, rfl, Nat.zero_le _, hI0⟩
      case round =>
        obtain ⟨j, AX, nX, cX, AY, nY, cY, lv, lv2, out, us, rfl, rfl, rfl, hj, hI⟩ := hrel
        clear hI0
        by_cases hlt : j < l.length
        · obtain ⟨g, o, hA, hcl⟩ := hI.rl.cells (by omega)
          obtain ⟨t, ht⟩ : ∃ t, l[j]? = some t := ⟨_, List.getElem?_eq_getElem hlt⟩
          have hce := hcl j (.string t) (by rw [List.getElem?_map, ht]; rfl)
          have hts := HLS.out t (List.mem_of_getElem? ht)
          have hal := hI.al _ hA
          have hpl := putT_len (ts := us) hts (by have := hI.few; omega)
          obtain ⟨⟨pb, us2⟩, hput⟩ : ∃ r, putT us t = r := ⟨_, rfl⟩
          have hBB : BB wr p lv mb q lv2 AX nX AY nY out ⟨g, o + j, none⟩ t wr := ⟨Pair.start hI.tab hI.ref hI.sep, hI.rx, hI.ry, hce⟩
          have hS := two_s (ts := us) (out := out) (t := t) hI.sep hI.ax hI.ay (la := ⟨g, o + j, none⟩) ⟨hal.1, hal.2.1⟩
          have htp := fun (u : World) (h : TabI u p lv mb us) (h2 : Rd u AX nX out) => tput_any p lv mb us t AX nX cX out u h h2 (fun h ad e => (hI.ax h ad e).1) (by omega) (by have := hI.bx; omega) (by have := hI.few; omega)
          have hnY : nY = nX := by rw [← hI.rx.len, ← hI.ry.len]
          have hrp := fun (u : World) (h : RefI u q lv2 us) (h2 : Rd u AY nY out) => rput_any q lv2 us t AY nY cY out u h h2 (by omega) (by have := hI.bx; omega) (by have := hI.few; omega)
          rw [hput] at htp hrp hpl
          simp only at htp hrp hpl
          have HTP := Lib.hid htp
          have HRP := Lib.hid hrp
          have HI := Lib.hid hI
          have HA := Lib.hid hA
          have HB := Lib.hid hBB
          have hsep := hI.sep
          have hT0 := hI.tab
          have hR0 := hI.ref
          subst hA
          clear hcl ht hput htp hrp hI hnY hBB
          go_wp2_with fail
          refine region_two 6 13 hS HB.out hT0 hR0 [[], [], [], [], [(2, 33), (3, 34)], [(4, 35)], [(0, 31), (1, 32), (5, 36)], [], [], [], [], [(9, 40), (10, 41)], [(11, 42)], [(7, 38), (8, 39), (12, 43)], [(1, 32), (6, 37)], [(8, 39), (13, 44)]] [(0, 31), (1, 32), (2, 33), (3, 34), (4, 35), (5, 36), (6, 37), (7, 38), (8, 39), (9, 40), (10, 41), (11, 42), (12, 43), (13, 44), (14, 7), (15, 8)] (fun
            | 0 => .eqv (.pointer (some ⟨p, 0, none⟩)) | 1 => .eqv (.slice AX nX cX) | 2 => .eqv (.slice (some ⟨g, o, none⟩) l.length cL) | 3 => .eqv (.int .i64 (j : Int)) | 4 => .eqv (.pointer (some ⟨g, o + j, none⟩)) | 5 => .eqv (.string t) | 6 => pxT hsep (out ++ pb) us2 | 7 => .eqv (.pointer (some ⟨q, 0, none⟩)) | 8 => .eqv (.slice AY nY cY) | 9 => .eqv (.slice (some ⟨g, o, none⟩) l.length cL) | 10 => .eqv (.int .i64 (j : Int)) | 11 => .eqv (.pointer (some ⟨g, o + j, none⟩)) | 12 => .eqv (.string t) | 13 => pxR hsep (out ++ pb) us2 | 14 => pxT hsep (out ++ pb) us2 | 15 => pxR hsep (out ++ pb) us2 | _ => .any) rfl (by kernel_rfl) ?_ ?_
          · refine ⟨fun u hu hx => ?_, fun u hu hx => ?_, fun u hu hx => ?_, fun u hu hx => ?_, fun u hu hx => ?_, fun u hu hx => ?_, fun u hu hx => ?_, fun u hu hx => ?_, fun u hu hx => ?_, fun u hu hx => ?_, fun u hu hx => ?_, fun u hu hx => ?_, fun u hu hx => ?_, fun u hu hx => ?_, fun u hu hx => ?_, fun u hu hx => ?_, trivial⟩
            · refine StepGoal.nil ?_
              go_wp2
              exact ⟨rfl, rfl, Grew.rf _, rfl⟩
            · refine StepGoal.nil ?_
              go_wp2
              exact ⟨rfl, rfl, Grew.rf _, rfl⟩
            · refine StepGoal.nil ?_
              go_wp2
              exact ⟨rfl, rfl, Grew.rf _, rfl⟩
            · refine StepGoal.nil ?_
              go_wp2
              exact ⟨rfl, rfl, Grew.rf _, rfl⟩
            · rintro _ rfl _ rfl
              refine StepGoal.nil ?_
              simp only [Act.put, List.setIfInBounds_toArray, List.set_cons_zero, List.set_cons_succ]
              go_wp2
              exact ⟨rfl, rfl, Grew.rf _, rfl⟩
            · rintro _ rfl
              have hce' := hu.2.2.2
              refine StepGoal.nil ?_
              simp only [Act.put, List.setIfInBounds_toArray, List.set_cons_zero, List.set_cons_succ]
              go_wp2
              exact ⟨rfl, rfl, Grew.rf _, rfl⟩
            · rintro _ rfl _ rfl _ rfl
              have hx1 : TabI u p lv mb us := hx
              refine StepGoal.nil ?_
              simp only [Act.put, List.setIfInBounds_toArray, List.set_cons_zero, List.set_cons_succ]
              go_wp2_with (go_at_call 23; refine Calls.mono (HTP.out _ hx1 hu.2.1) ?_; rintro e w' ⟨B, m, d, rfl, Q⟩)
              exact ⟨rfl, rfl, GT.of Q, PutW.of Q hu.1.chg.size⟩
            · refine StepGoal.nil ?_
              go_wp2
              exact ⟨rfl, rfl, Grew.rf _, rfl⟩
            · refine StepGoal.nil ?_
              go_wp2
              exact ⟨rfl, rfl, Grew.rf _, rfl⟩
            · refine StepGoal.nil ?_
              go_wp2
              exact ⟨rfl, rfl, Grew.rf _, rfl⟩
            · refine StepGoal.nil ?_
              go_wp2
              exact ⟨rfl, rfl, Grew.rf _, rfl⟩
            · rintro _ rfl _ rfl
              refine StepGoal.nil ?_
              simp only [Act.put, List.setIfInBounds_toArray, List.set_cons_zero, List.set_cons_succ]
              go_wp2
              exact ⟨rfl, rfl, Grew.rf _, rfl⟩
            · rintro _ rfl
              have hce' := hu.2.2.2
              refine StepGoal.nil ?_
              simp only [Act.put, List.setIfInBounds_toArray, List.set_cons_zero, List.set_cons_succ]
              go_wp2
              exact ⟨rfl, rfl, Grew.rf _, rfl⟩
            · rintro _ rfl _ rfl _ rfl
              have hx1 : RefI u q lv2 us := hx
              refine StepGoal.nil ?_
              simp only [Act.put, List.setIfInBounds_toArray, List.set_cons_zero, List.set_cons_succ]
              go_wp2_with (go_at_call 24; refine Calls.mono (HRP.out _ hx1 hu.2.2.1) ?_; rintro e w' ⟨B, m, d, rfl, Q⟩)
              exact ⟨rfl, rfl, GR.of Q, RPutW.of Q hu.1.chg.size⟩
            · rintro _ rfl v37 h37
              refine StepGoal.nil ?_
              simp only [Act.put, List.setIfInBounds_toArray, List.set_cons_zero, List.set_cons_succ]
              go_wp2
              exact ⟨rfl, rfl, Grew.rf _, h37⟩
            · rintro _ rfl v44 h44
              refine StepGoal.nil ?_
              simp only [Act.put, List.setIfInBounds_toArray, List.set_cons_zero, List.set_cons_succ]
              go_wp2
              exact ⟨rfl, rfl, Grew.rf _, h44⟩
          · intro u hu
            rintro _ rfl _ rfl _ rfl _ rfl _ rfl _ rfl v37 h37 _ rfl _ rfl _ rfl _ rfl _ rfl _ rfl v44 h44 v7 h7 v8 h8
            refine StepGoal.nil ?_
            simp only [Act.put, List.setIfInBounds_toArray, List.set_cons_zero, List.set_cons_succ]
            obtain ⟨BX, mX, dX, rfl, rx2, hlx, hdx, hfx, hux, l1, hT2, hf1⟩ : PutW wr p lv mb (out ++ pb) us2 v7 u := h7
            obtain ⟨BY, mY, dY, rfl, ry2, hly, hdy, hfy, huy, l2, hR2, hf2⟩ : RPutW wr q lv2 (out ++ pb) us2 v8 u := h8
            clear h37 h44
            obtain ⟨w4, hw4⟩ : ∃ w4, w4 = u := ⟨_, rfl⟩
            subst hw4
            obtain ⟨AL2, cL2, hl2, hnL2, hcL2, hrL2⟩ := hR2.list.rd
            have hcell : w4.cell? ⟨q, 0, none⟩ = some (.slice AL2 us2.length cL2) := by
              have h := hR2.cells
              rw [hl2] at h
              exact cell_of_heap (i := 0) h rfl
            have hus2 : us2.length ≤ 41 := by have := hpl.2; have := HI.out.few; omega
            have HP := Lib.hid (PI19.next HI.out hpl.1 hpl.2 hu rx2 ry2 hux huy hT2 hf1 hR2 hf2)
            have HQ := Lib.hid hpl
            have hsx := fun (u : World) (h : Grew w4 u) => RdK.str (c := dX) (rx2.keep h)
            have hsy := fun (u : World) (h : Grew w4 u) => RdK.str (c := dY) (ry2.keep h)
            have htl := fun (u : World) (h : Grew w4 u) => tlen_any p l1 mb us2 u (hT2.keep h)
            have hce := fun (u : World) (h : Grew w4 u) => h.ce hcell
            clear hu hcell rx2 ry2 hfx hux hfy huy hT2 hf1 hR2 hf2 hl2 hrL2 hpl hsep hT0 hR0 hS HTP HRP HB
            go_wp2_with fail
            refine region_grew [[], [(0, 45)], [], [(2, 47)], [(1, 46), (3, 48)], [(4, 49)], [(5, 50)], [(5, 50), (6, 51)], [(5, 50)], [(5, 50), (8, 53)], [(5, 50), (9, 54)], [(5, 50), (10, 55)], [(5, 50), (11, 56)], [(5, 50), (7, 52), (12, 57)], [(5, 50), (13, 58)]] [(0, 45), (1, 46), (2, 47), (3, 48), (4, 49), (5, 50), (6, 51), (7, 52), (8, 53), (9, 54), (10, 55), (11, 56), (12, 57), (13, 58), (14, 59)] (fun
              | 0 => .eqv (.slice BX mX dX) | 1 => .eqv (.string (strOfNums (out ++ pb))) | 2 => .eqv (.slice BY mY dY) | 3 => .eqv (.string (strOfNums (out ++ pb))) | 4 => .eqv (.bool false) | 5 => .eqv (.bool false) | 6 => .eqv (.pointer (some ⟨p, 0, none⟩)) | 7 => .eqv (.int .i64 (us2.length : Int)) | 8 => .eqv (.pointer (some ⟨q, 0, none⟩)) | 9 => .eqv (.pointer (some ⟨q, 0, none⟩)) | 10 => .eqv (.pointer (some ⟨q, 0, none⟩)) | 11 => .eqv (.slice AL2 us2.length cL2) | 12 => .eqv (.int .i64 (us2.length : Int)) | 13 => .eqv (.bool false) | 14 => .eqv (.bool false) | _ => .any) (by kernel_rfl) ?_ ?_
            · refine ⟨fun u hu => ?_, fun u hu => ?_, fun u hu => ?_, fun u hu => ?_, fun u hu => ?_, fun u hu => ?_, fun u hu => ?_, fun u hu => ?_, fun u hu => ?_, fun u hu => ?_, fun u hu => ?_, fun u hu => ?_, fun u hu => ?_, fun u hu => ?_, fun u hu => ?_, trivial⟩
              · refine StepGoal.nil ?_
                go_wp2
                exact ⟨rfl, rfl, Grew.rf _, rfl⟩
              · rintro _ rfl
                have hs1 := hsx u hu
                refine StepGoal.nil ?_
                simp only [Act.put, List.setIfInBounds_toArray, List.set_cons_zero, List.set_cons_succ]
                go_wp2
                exact ⟨rfl, rfl, Grew.rf _, rfl⟩
              · refine StepGoal.nil ?_
                go_wp2
                exact ⟨rfl, rfl, Grew.rf _, rfl⟩
              · rintro _ rfl
                have hs1 := hsy u hu
                refine StepGoal.nil ?_
                simp only [Act.put, List.setIfInBounds_toArray, List.set_cons_zero, List.set_cons_succ]
                go_wp2
                exact ⟨rfl, rfl, Grew.rf _, rfl⟩
              · rintro _ rfl _ rfl
                refine StepGoal.nil ?_
                simp only [Act.put, List.setIfInBounds_toArray, List.set_cons_zero, List.set_cons_succ]
                go_wp2
                exact ⟨rfl, rfl, Grew.rf _, rfl⟩
              · rintro _ rfl
                refine StepGoal.nil ?_
                simp only [Act.put, List.setIfInBounds_toArray, List.set_cons_zero, List.set_cons_succ]
                go_wp2
                exact ⟨rfl, rfl, Grew.rf _, rfl⟩
              · rintro _ rfl
                refine StepGoal.nil ?_
                simp only [Act.put, List.setIfInBounds_toArray, List.set_cons_zero, List.set_cons_succ]
                go_wp2
                exact ⟨rfl, rfl, Grew.rf _, rfl⟩
              · rintro _ rfl _ rfl
                have htl1 := htl u hu
                refine StepGoal.nil ?_
                simp only [Act.put, List.setIfInBounds_toArray, List.set_cons_zero, List.set_cons_succ]
                go_wp2_with (go_at_call 25; refine Calls.mono htl1 ?_; rintro e w' ⟨rfl, rfl⟩)
                exact ⟨rfl, rfl, Grew.rf _, rfl⟩
              · rintro _ rfl
                refine StepGoal.nil ?_
                simp only [Act.put, List.setIfInBounds_toArray, List.set_cons_zero, List.set_cons_succ]
                go_wp2
                exact ⟨rfl, rfl, Grew.rf _, rfl⟩
              · rintro _ rfl _ rfl
                refine StepGoal.nil ?_
                simp only [Act.put, List.setIfInBounds_toArray, List.set_cons_zero, List.set_cons_succ]
                go_wp2
                exact ⟨rfl, rfl, Grew.rf _, rfl⟩
              · rintro _ rfl _ rfl
                refine StepGoal.nil ?_
                simp only [Act.put, List.setIfInBounds_toArray, List.set_cons_zero, List.set_cons_succ]
                go_wp2
                exact ⟨rfl, rfl, Grew.rf _, rfl⟩
              · rintro _ rfl _ rfl
                have hce1 := hce u hu
                refine StepGoal.nil ?_
                simp only [Act.put, List.setIfInBounds_toArray, List.set_cons_zero, List.set_cons_succ]
                go_wp2
                exact ⟨rfl, rfl, Grew.rf _, rfl⟩
              · rintro _ rfl _ rfl
                refine StepGoal.nil ?_
                simp only [Act.put, List.setIfInBounds_toArray, List.set_cons_zero, List.set_cons_succ]
                go_wp2
                exact ⟨rfl, rfl, Grew.rf _, rfl⟩
              · rintro _ rfl _ rfl _ rfl
                refine StepGoal.nil ?_
                simp only [Act.put, List.setIfInBounds_toArray, List.set_cons_zero, List.set_cons_succ]
                go_wp2
                exact ⟨rfl, rfl, Grew.rf _, rfl⟩
              · rintro _ rfl _ rfl
                refine StepGoal.nil ?_
                simp only [Act.put, List.setIfInBounds_toArray, List.set_cons_zero, List.set_cons_succ]
                go_wp2
                exact ⟨rfl, rfl, Grew.rf _, rfl⟩
            · intro u hu
              rintro _ rfl _ rfl _ rfl _ rfl _ rfl _ rfl _ rfl _ rfl _ rfl _ rfl _ rfl _ rfl _ rfl _ rfl _ rfl
              refine StepGoal.nil ?_
              simp only [Act.put, List.setIfInBounds_toArray, List.set_cons_zero, List.set_cons_succ]
              clear hsx hsy htl hce
              go_wp2_with fail
              go_roundw
              case rel =>
                exact ⟨j + 1, BX, mX, dX, BY, mY, dY, l1, l2, out ++ pb, us2, by go_num, rfl, rfl, by omega, HP.out.keep hu⟩
              case measure => simp [intOf]; omega
        · have HI := Lib.hid hI
          clear hI
          go_wp2_with (go_at_call 26; refine Calls.mono (awake19_any _) ?_; rintro e w5 ⟨rfl, hg5⟩)
          go_ret
          exact ⟨rfl, HI.out.grew.tr hg5⟩
  · have hr00 := hr0.take (i := n0) (Nat.le_refl _)
    have hk : n0 ≤ c0 := hnc0
    have HA := Lib.hid HA0.out
    obtain ⟨k0, hk0⟩ : ∃ k0, k0 = n0 := ⟨_, rfl⟩
    go_enter Try.func5, Try.ntmps5
    go_wp2_with (go_at_call 21; refine Calls.mono (tnew_any _) ?_; rintro e w1 ⟨p, mb, rfl, hT1, hg1, hp1, hm1⟩)
    have hG1 : Grew w w1 := hg1
    obtain ⟨wz, hwz⟩ : ∃ wz, w1.alloc (.cells #[.slice none 0 0] 50) = wz := ⟨_, rfl⟩
    rw [hwz]
    have hgz : Grew (w1.alloc (.cells #[.slice none 0 0] 50)) wz := by rw [hwz]; exact Grew.rf _
    clear hwz
    rw [← hk0] at hr00 hk HA
    have hb300 : k0 ≤ 300 := by omega
    clear hbig
    simp only [show n0 = k0 from hk0.symm]
    have hTz : TabI wz p (.slice none 0 0) mb [] := hT1.keep (((Grew.rf w1).al _).tr hgz)
    have hRz : RefI wz w1.heap.size (.slice none 0 0) [] := RefI.keep ⟨heap_alloc_new w1 _, OwnV.nil _ _ _ _, by simp, by simp⟩ hgz
    have hGz : Grew w wz := (hG1.al _).tr hgz
    have hpm : p < w1.heap.size ∧ mb < w1.heap.size := ⟨hT1.lt (.inl rfl), hT1.lt (.inr (.inl rfl))⟩
    have hzz : w1.heap.size < wz.heap.size := hRz.lt (.inl rfl)
    have hw1 := hG1.size
    obtain ⟨q, hq⟩ : ∃ q, w1.heap.size = q := ⟨_, rfl⟩
    rw [hq] at hRz hpm hzz hw1 ⊢
    refine Calls.mono (HFEW.out _ hGz) ?_
    rintro e w2 ⟨vl, rfl, hol, hg2⟩
    obtain ⟨l, hl⟩ : ∃ l, fewT ts = l := ⟨_, rfl⟩
    have hll : l.length ≤ 40 := by rw [← hl, fewT_len]; omega
    have hls : ∀ t ∈ l, t.size ≤ 300 := fun t ht => by
      rw [← hl] at ht
      obtain ⟨s, _, rfl⟩ := List.mem_map.1 ht
      exact cutT_size s
    rw [hl] at hol
    obtain ⟨AL, cL, rfl, hcL, hmL, hrL⟩ := hol.rd
    have hbl : ∀ ad, AL = some ad → wz.heap.size ≤ ad.block ∧ ad.block < w2.heap.size := fun ad e => ⟨hol.base_le _ (by rw [e]; rfl), hol.lt (by rw [e]; rfl)⟩
    have hz2 := hg2.size
    have hft : ∀ k, ftp p (.slice none 0 0) mb k → w.heap.size ≤ k ∧ k < q := by
      rintro k (rfl | rfl | h)
      · exact ⟨hp1, hpm.1⟩
      · exact ⟨hm1, hpm.2⟩
      · cases h
    have hfr : ∀ k, ftr q (.slice none 0 0) k → k = q := by
      rintro k (rfl | h)
      · rfl
      · cases h
    have hI0 : PI19 w p mb q AL l 0 A0 k0 A0 k0 (.slice none 0 0) (.slice none 0 0) (bs0.take k0) [] w2 :=
      ⟨hr00.keep (hGz.tr hg2), hr00.keep (hGz.tr hg2), by omega, hTz.keep hg2, hRz.keep hg2, Nat.le_refl _,
        ⟨fun k h1 h2 => by have := hft k h1; have := hfr k h2; omega, fun k h1 => by have := hft k h1; omega, fun k h1 => by have := hfr k h1; omega⟩,
        fun hn ad e => ⟨fun h => by have := hft _ h; have := HA.out hn ad e; omega, fun h => by have := hfr _ h; have := HA.out hn ad e; omega⟩,
        fun hn ad e => ⟨fun h => by have := hft _ h; have := HA.out hn ad e; omega, fun h => by have := hfr _ h; have := HA.out hn ad e; omega⟩,
        hrL, fun ad e => ⟨fun h => by have := hft _ h; have := hbl ad e; omega, fun h => by have := hfr _ h; have := hbl ad e; omega, (hbl ad e).2⟩,
        fun k h => h.elim (fun h => (hft k h).1) (fun h => by have := hfr k h; omega), hGz.tr hg2⟩
    have HLS := Lib.hid hls
    clear hls hl hol hrL hbl hft hfr hTz hRz hGz hgz hT1 hG1 hq hr00 hr0 HA HA0 HFEW hk hk0 hg2 hz2 hzz hpm hp1 hm1 hw1
    go_wp2_with fail
    go_loopw [7, 8, 10] (fun x y i wr => ∃ (j : Nat) (AX : Option Addr) (nX cX : Nat) (AY : Option Addr) (nY cY : Nat) (lv lv2 : Value) (out : List Int) (us : List ByteArray), i = .int .i64 (j : Int) ∧ x = .slice AX nX cX ∧ y = .slice AY nY cY ∧ j ≤ l.length ∧ PI19 w p mb q AL l j AX nX AY nY lv lv2 out us wr) (fun _ _ i _ => l.length - (intOf i).toNat)
    case atStart => exact ⟨0, A0, k0, c0, A0, k0, c0, _, _, _, _, rfl, rfl, rfl, Nat.zero_le _, hI0⟩
    case round =>
      obtain ⟨j, AX, nX, cX, AY, nY, cY, lv, lv2, out, us, rfl, rfl, rfl, hj, hI⟩ := hrel
      clear hI0
      by_cases hlt : j < l.length
      · obtain ⟨g, o, hA, hcl⟩ := hI.rl.cells (by omega)
        obtain ⟨t, ht⟩ : ∃ t, l[j]? = some t := ⟨_, List.getElem?_eq_getElem hlt⟩
        have hce := hcl j (.string t) (by rw [List.getElem?_map, ht]; rfl)
        have hts := HLS.out t (List.mem_of_getElem? ht)
        have hal := hI.al _ hA
        have hpl := putT_len (ts := us) hts (by have := hI.few; omega)
        obtain ⟨⟨pb, us2⟩, hput⟩ : ∃ r, putT us t = r := ⟨_, rfl⟩
        have hBB : BB wr p lv mb q lv2 AX nX AY nY out ⟨g, o + j, none⟩ t wr := ⟨Pair.start hI.tab hI.ref hI.sep, hI.rx, hI.ry, hce⟩
        have hS := two_s (ts := us) (out := out) (t := t) hI.sep hI.ax hI.ay (la := ⟨g, o + j, none⟩) ⟨hal.1, hal.2.1⟩
        have htp := fun (u : World) (h : TabI u p lv mb us) (h2 : Rd u AX nX out) => tput_any p lv mb us t AX nX cX out u h h2 (fun h ad e => (hI.ax h ad e).1) (by omega) (by have := hI.bx; omega) (by have := hI.few; omega)
        have hnY : nY = nX := by rw [← hI.rx.len, ← hI.ry.len]
        have hrp := fun (u : World) (h : RefI u q lv2 us) (h2 : Rd u AY nY out) => rput_any q lv2 us t AY nY cY out u h h2 (by omega) (by have := hI.bx; omega) (by have := hI.few; omega)
        rw [hput] at htp hrp hpl
        simp only at htp hrp hpl
        have HTP := Lib.hid htp
        have HRP := Lib.hid hrp
        have HI := Lib.hid hI
        have HA := Lib.hid hA
        have HB := Lib.hid hBB
        have hsep := hI.sep
        have hT0 := hI.tab
        have hR0 := hI.ref
        subst hA
        clear hcl ht hput htp hrp hI hnY hBB
        go_wp2_with fail
        refine region_two 6 13 hS HB.out hT0 hR0 [[], [], [], [], [(2, 33), (3, 34)], [(4, 35)], [(0, 31), (1, 32), (5, 36)], [], [], [], [], [(9, 40), (10, 41)], [(11, 42)], [(7, 38), (8, 39), (12, 43)], [(1, 32), (6, 37)], [(8, 39), (13, 44)]] [(0, 31), (1, 32), (2, 33), (3, 34), (4, 35), (5, 36), (6, 37), (7, 38), (8, 39), (9, 40), (10, 41), (11, 42), (12, 43), (13, 44), (14, 7), (15, 8)] (fun
          | 0 => .eqv (.pointer (some ⟨p, 0, none⟩)) | 1 => .eqv (.slice AX nX cX) | 2 => .eqv (.slice (some ⟨g, o, none⟩) l.length cL) | 3 => .eqv (.int .i64 (j : Int)) | 4 => .eqv (.pointer (some ⟨g, o + j, none⟩)) | 5 => .eqv (.string t) | 6 => pxT hsep (out ++ pb) us2 | 7 => .eqv (.pointer (some ⟨q, 0, none⟩)) | 8 => .eqv (.slice AY nY cY) | 9 => .eqv (.slice (some ⟨g, o, none⟩) l.length cL) | 10 => .eqv (.int .i64 (j : Int)) | 11 => .eqv (.pointer (some ⟨g, o + j, none⟩)) | 12 => .eqv (.string t) | 13 => pxR hsep (out ++ pb) us2 | 14 => pxT hsep (out ++ pb) us2 | 15 => pxR hsep (out ++ pb) us2 | _ => .any) rfl (by kernel_rfl) ?_ ?_
        · refine ⟨fun u hu hx => ?_, fun u hu hx => ?_, fun u hu hx => ?_, fun u hu hx => ?_, fun u hu hx => ?_, fun u hu hx => ?_, fun u hu hx => ?_, fun u hu hx => ?_, fun u hu hx => ?_, fun u hu hx => ?_, fun u hu hx => ?_, fun u hu hx => ?_, fun u hu hx => ?_, fun u hu hx => ?_, fun u hu hx => ?_, fun u hu hx => ?_, trivial⟩
          · refine StepGoal.nil ?_
            go_wp2
            exact ⟨rfl, rfl, Grew.rf _, rfl⟩
          · refine StepGoal.nil ?_
            go_wp2
            exact ⟨rfl, rfl, Grew.rf _, rfl⟩
          · refine StepGoal.nil ?_
            go_wp2
            exact ⟨rfl, rfl, Grew.rf _, rfl⟩
          · refine StepGoal.nil ?_
            go_wp2
            exact ⟨rfl, rfl, Grew.rf _, rfl⟩
          · rintro _ rfl _ rfl
            refine StepGoal.nil ?_
            simp only [Act.put, List.setIfInBounds_toArray, List.set_cons_zero, List.set_cons_succ]
            go_wp2
            exact ⟨rfl, rfl, Grew.rf _, rfl⟩
          · rintro _ rfl
            have hce' := hu.2.2.2
            refine StepGoal.nil ?_
            simp only [Act.put, List.setIfInBounds_toArray, List.set_cons_zero, List.set_cons_succ]
            go_wp2
            exact ⟨rfl, rfl, Grew.rf _, rfl⟩
          · rintro _ rfl _ rfl _ rfl
            have hx1 : TabI u p lv mb us := hx
            refine StepGoal.nil ?_
            simp only [Act.put, List.setIfInBounds_toArray, List.set_cons_zero, List.set_cons_succ]
            go_wp2_with (go_at_call 23; refine Calls.mono (HTP.out _ hx1 hu.2.1) ?_; rintro e w' ⟨B, m, d, rfl, Q⟩)
            exact ⟨rfl, rfl, GT.of Q, PutW.of Q hu.1.chg.size⟩
          · refine StepGoal.nil ?_
            go_wp2
            exact ⟨rfl, rfl, Grew.rf _, rfl⟩
          · refine StepGoal.nil ?_
            go_wp2
            exact ⟨rfl, rfl, Grew.rf _, rfl⟩
          · refine StepGoal.nil ?_
            go_wp2
            exact ⟨rfl, rfl, Grew.rf _, rfl⟩
          · refine StepGoal.nil ?_
            go_wp2
            exact ⟨rfl, rfl, Grew.rf _, rfl⟩
          · rintro _ rfl _ rfl
            refine StepGoal.nil ?_
            simp only [Act.put, List.setIfInBounds_toArray, List.set_cons_zero, List.set_cons_succ]
            go_wp2
            exact ⟨rfl, rfl, Grew.rf _, rfl⟩
          · rintro _ rfl
            have hce' := hu.2.2.2
            refine StepGoal.nil ?_
            simp only [Act.put, List.setIfInBounds_toArray, List.set_cons_zero, List.set_cons_succ]
            go_wp2
            exact ⟨rfl, rfl, Grew.rf _, rfl⟩
          · rintro _ rfl _ rfl _ rfl
            have hx1 : RefI u q lv2 us := hx
            refine StepGoal.nil ?_
            simp only [Act.put, List.setIfInBounds_toArray, List.set_cons_zero, List.set_cons_succ]
            go_wp2_with (go_at_call 24; refine Calls.mono (HRP.out _ hx1 hu.2.2.1) ?_; rintro e w' ⟨B, m, d, rfl, Q⟩)
            exact ⟨rfl, rfl, GR.of Q, RPutW.of Q hu.1.chg.size⟩
          · rintro _ rfl v37 h37
            refine StepGoal.nil ?_
            simp only [Act.put, List.setIfInBounds_toArray, List.set_cons_zero, List.set_cons_succ]
            go_wp2
            exact ⟨rfl, rfl, Grew.rf _, h37⟩
          · rintro _ rfl v44 h44
            refine StepGoal.nil ?_
            simp only [Act.put, List.setIfInBounds_toArray, List.set_cons_zero, List.set_cons_succ]
            go_wp2
            exact ⟨rfl, rfl, Grew.rf _, h44⟩
        · intro u hu
          rintro _ rfl _ rfl _ rfl _ rfl _ rfl _ rfl v37 h37 _ rfl _ rfl _ rfl _ rfl _ rfl _ rfl v44 h44 v7 h7 v8 h8
          refine StepGoal.nil ?_
          simp only [Act.put, List.setIfInBounds_toArray, List.set_cons_zero, List.set_cons_succ]
          obtain ⟨BX, mX, dX, rfl, rx2, hlx, hdx, hfx, hux, l1, hT2, hf1⟩ : PutW wr p lv mb (out ++ pb) us2 v7 u := h7
          obtain ⟨BY, mY, dY, rfl, ry2, hly, hdy, hfy, huy, l2, hR2, hf2⟩ : RPutW wr q lv2 (out ++ pb) us2 v8 u := h8
          clear h37 h44
          obtain ⟨w4, hw4⟩ : ∃ w4, w4 = u := ⟨_, rfl⟩
          subst hw4
          obtain ⟨AL2, cL2, hl2, hnL2, hcL2, hrL2⟩ := hR2.list.rd
          have hcell : w4.cell? ⟨q, 0, none⟩ = some (.slice AL2 us2.length cL2) := by
            have h := hR2.cells
            rw [hl2] at h
            exact cell_of_heap (i := 0) h rfl
          have hus2 : us2.length ≤ 41 := by have := hpl.2; have := HI.out.few; omega
          have HP := Lib.hid (PI19.next HI.out hpl.1 hpl.2 hu rx2 ry2 hux huy hT2 hf1 hR2 hf2)
          have HQ := Lib.hid hpl
          have hsx := fun (u : World) (h : Grew w4 u) => RdK.str (c := dX) (rx2.keep h)
          have hsy := fun (u : World) (h : Grew w4 u) => RdK.str (c := dY) (ry2.keep h)
          have htl := fun (u : World) (h : Grew w4 u) => tlen_any p l1 mb us2 u (hT2.keep h)
          have hce := fun (u : World) (h : Grew w4 u) => h.ce hcell
          clear hu hcell rx2 ry2 hfx hux hfy huy hT2 hf1 hR2 hf2 hl2 hrL2 hpl hsep hT0 hR0 hS HTP HRP HB
          go_wp2_with fail
          refine region_grew [[], [(0, 45)], [], [(2, 47)], [(1, 46), (3, 48)], [(4, 49)], [(5, 50)], [(5, 50), (6, 51)], [(5, 50)], [(5, 50), (8, 53)], [(5, 50), (9, 54)], [(5, 50), (10, 55)], [(5, 50), (11, 56)], [(5, 50), (7, 52), (12, 57)], [(5, 50), (13, 58)]] [(0, 45), (1, 46), (2, 47), (3, 48), (4, 49), (5, 50), (6, 51), (7, 52), (8, 53), (9, 54), (10, 55), (11, 56), (12, 57), (13, 58), (14, 59)] (fun
            | 0 => .eqv (.slice BX mX dX) | 1 => .eqv (.string (strOfNums (out ++ pb))) | 2 => .eqv (.slice BY mY dY) | 3 => .eqv (.string (strOfNums (out ++ pb))) | 4 => .eqv (.bool false) | 5 => .eqv (.bool false) | 6 => .eqv (.pointer (some ⟨p, 0, none⟩)) | 7 => .eqv (.int .i64 (us2.length : Int)) | 8 => .eqv (.pointer (some ⟨q, 0, none⟩)) | 9 => .eqv (.pointer (some ⟨q, 0, none⟩)) | 10 => .eqv (.pointer (some ⟨q, 0, none⟩)) | 11 => .eqv (.slice AL2 us2.length cL2) | 12 => .eqv (.int .i64 (us2.length : Int)) | 13 => .eqv (.bool false) | 14 => .eqv (.bool false) | _ => .any) (by kernel_rfl) ?_ ?_
          · refine ⟨fun u hu => ?_, fun u hu => ?_, fun u hu => ?_, fun u hu => ?_, fun u hu => ?_, fun u hu => ?_, fun u hu => ?_, fun u hu => ?_, fun u hu => ?_, fun u hu => ?_, fun u hu => ?_, fun u hu => ?_, fun u hu => ?_, fun u hu => ?_, fun u hu => ?_, trivial⟩
            · refine StepGoal.nil ?_
              go_wp2
              exact ⟨rfl, rfl, Grew.rf _, rfl⟩
            · rintro _ rfl
              have hs1 := hsx u hu
              refine StepGoal.nil ?_
              simp only [Act.put, List.setIfInBounds_toArray, List.set_cons_zero, List.set_cons_succ]
              go_wp2
              exact ⟨rfl, rfl, Grew.rf _, rfl⟩
            · refine StepGoal.nil ?_
              go_wp2
              exact ⟨rfl, rfl, Grew.rf _, rfl⟩
            · rintro _ rfl
              have hs1 := hsy u hu
              refine StepGoal.nil ?_
              simp only [Act.put, List.setIfInBounds_toArray, List.set_cons_zero, List.set_cons_succ]
              go_wp2
              exact ⟨rfl, rfl, Grew.rf _, rfl⟩
            · rintro _ rfl _ rfl
              refine StepGoal.nil ?_
              simp only [Act.put, List.setIfInBounds_toArray, List.set_cons_zero, List.set_cons_succ]
              go_wp2
              exact ⟨rfl, rfl, Grew.rf _, rfl⟩
            · rintro _ rfl
              refine StepGoal.nil ?_
              simp only [Act.put, List.setIfInBounds_toArray, List.set_cons_zero, List.set_cons_succ]
              go_wp2
              exact ⟨rfl, rfl, Grew.rf _, rfl⟩
            · rintro _ rfl
              refine StepGoal.nil ?_
              simp only [Act.put, List.setIfInBounds_toArray, List.set_cons_zero, List.set_cons_succ]
              go_wp2
              exact ⟨rfl, rfl, Grew.rf _, rfl⟩
            · rintro _ rfl _ rfl
              have htl1 := htl u hu
              refine StepGoal.nil ?_
              simp only [Act.put, List.setIfInBounds_toArray, List.set_cons_zero, List.set_cons_succ]
              go_wp2_with (go_at_call 25; refine Calls.mono htl1 ?_; rintro e w' ⟨rfl, rfl⟩)
              exact ⟨rfl, rfl, Grew.rf _, rfl⟩
            · rintro _ rfl
              refine StepGoal.nil ?_
              simp only [Act.put, List.setIfInBounds_toArray, List.set_cons_zero, List.set_cons_succ]
              go_wp2
              exact ⟨rfl, rfl, Grew.rf _, rfl⟩
            · rintro _ rfl _ rfl
              refine StepGoal.nil ?_
              simp only [Act.put, List.setIfInBounds_toArray, List.set_cons_zero, List.set_cons_succ]
              go_wp2
              exact ⟨rfl, rfl, Grew.rf _, rfl⟩
            · rintro _ rfl _ rfl
              refine StepGoal.nil ?_
              simp only [Act.put, List.setIfInBounds_toArray, List.set_cons_zero, List.set_cons_succ]
              go_wp2
              exact ⟨rfl, rfl, Grew.rf _, rfl⟩
            · rintro _ rfl _ rfl
              have hce1 := hce u hu
              refine StepGoal.nil ?_
              simp only [Act.put, List.setIfInBounds_toArray, List.set_cons_zero, List.set_cons_succ]
              go_wp2
              exact ⟨rfl, rfl, Grew.rf _, rfl⟩
            · rintro _ rfl _ rfl
              refine StepGoal.nil ?_
              simp only [Act.put, List.setIfInBounds_toArray, List.set_cons_zero, List.set_cons_succ]
              go_wp2
              exact ⟨rfl, rfl, Grew.rf _, rfl⟩
            · rintro _ rfl _ rfl _ rfl
              refine StepGoal.nil ?_
              simp only [Act.put, List.setIfInBounds_toArray, List.set_cons_zero, List.set_cons_succ]
              go_wp2
              exact ⟨rfl, rfl, Grew.rf _, rfl⟩
            · rintro _ rfl _ rfl
              refine StepGoal.nil ?_
              simp only [Act.put, List.setIfInBounds_toArray, List.set_cons_zero, List.set_cons_succ]
              go_wp2
              exact ⟨rfl, rfl, Grew.rf _, rfl⟩
          · intro u hu
            rintro _ rfl _ rfl _ rfl _ rfl _ rfl _ rfl _ rfl _ rfl _ rfl _ rfl _ rfl _ rfl _ rfl _ rfl _ rfl
            refine StepGoal.nil ?_
            simp only [Act.put, List.setIfInBounds_toArray, List.set_cons_zero, List.set_cons_succ]
            clear hsx hsy htl hce
            go_wp2_with fail
            go_roundw
            case rel =>
              exact ⟨j + 1, BX, mX, dX, BY, mY, dY, l1, l2, out ++ pb, us2, by go_num, rfl, rfl, by omega, HP.out.keep hu⟩
            case measure => simp [intOf]; omega
      · have HI := Lib.hid hI
        clear hI
        go_wp2_with (go_at_call 26; refine Calls.mono (awake19_any _) ?_; rintro e w5 ⟨rfl, hg5⟩)
        go_ret
        exact ⟨rfl, HI.out.grew.tr hg5⟩
end Go.Proofs.Ytbkcpgaicoagfaa
